/- Part 14 of the proof of ScanNext: an abstract machine over plain values, its soundness, and the functions of the program on plain values. -/
import Derived.Test.YtipklgbboecciaaGreatMScanNext13
namespace Go.Proofs.YtipklgbboecciaaGreat
set_option maxRecDepth 100000
set_option linter.unusedVariables false
set_option linter.unusedSimpArgs false
open List renaming forall_mem_cons->WcW,forall_mem_nil->WcX,length_map->WcO,replicate->Wad,take_of_length_le->WbR,getElem_mem->WaV,getElem?_append_right->Wal,take->WcK,length->WcJ,map_append->WcY,nil_append->WcQ,mem_cons->WbL,mem_append->Wbt,drop->WcM,length_nil->WcT,mem_singleton->WcF,length_cons->WcZ,mem_cons_of_mem->WcB,mem_cons_self->Wcy,mem_or_eq_of_mem_set->Wda,append_assoc->WcG,eq_of_mem_replicate->Wdb,mem_map->WbX,getElem?_cons_succ->Wbq,length_set->Wdc,take_left->Wdd,drop_zero->WcP,mem_of_mem_take->WaI,mem_of_mem_drop->WaP
open IntKind renaming wrap->Wbf,u8->Wdf
open Bool renaming not_true->WcR
open Int renaming toNat->WcL,tmod->Wde
section
variable {s:ScT}{l:List OwT}{i:Nat}{x:Int}{w:OwT}
variable {Y:Type}
theorem qZ:ScOk ⟨[],[]⟩:=⟨by simp,by simp,by simp,by simp⟩
theorem zd3(s:ScT)(k:Ls->Option Y):cL 3 (fE s) 0 k=k (s.tk.map jD):=ro rfl k
theorem zdR(s:ScT)(k:Ls->Option Y):cL 38 (fE s) 1 k=k (s.ow.map dC):=ro rfl k
theorem Lp(L:Nat)(h1:s.tk.length<=1000000)(h2:s.ow.length<=1000000)(k:Nat->Nat->List V->List V->Option Y):ca Y L (fE s) k=k s.tk.length s.ow.length (s.tk.map jD).flatten (s.ow.map dC).flatten:=by
 simp only [ca,zA,zd3,zdR,WcO];rw [bT (show (fE s).length=2 from rfl),bT (by simp only [cy]; omega),bT (by simp only [cy]; omega)]
theorem ST(l:List TkT):cz 3 l.length (l.map jD).flatten=l.map jD:=by
 have:=AC (zQ l)
 rwa [WcO] at this
theorem Ss(h:∀ w∈l,w.h.length=32):cz 38 l.length (l.map dC).flatten=l.map dC:=by
 have:=AC (Df h)
 rwa [WcO] at this
theorem zfF(hs:ScOk s){b:List Int}(hb:dG b)(hl:b.length<=1000)(x:Int):∃ (s':ScT) (e:Int),ScOk s'/\∀ (L:Nat),2000000<=L->∀ (Y:Type) (k:List V->Int->Option Y),dz Y L (fE s) (eB .u8 b) x k=k (fE s') e:=by
 obtain ⟨v,hv⟩:=N9 hs;have htl:=hs.tl;have hol:=hs.ol;have z:([(V.sl 3 ([]:Ls)),(V.sl 38 ([]:Ls))]:List V)=fE ⟨[],[]⟩:=rfl;have e:∀ (L:Nat),2000000<=L->∀ (Y:Type) (k:List V->Int->Option Y),dz Y L (fE s) (eB .u8 b) x k =
   ifb (!v) (k (fE ⟨[],[]⟩) 6) (ifb (decide (((s.tk.length:Nat):Int)>=1000)) (k (fE ⟨[],[]⟩) 4) (ifb (decide (((b.length:Nat):Int)>520)) (k (fE ⟨[],[]⟩) 4) (ifb (((b.length:Nat):Int)==0) (k (fE ⟨[],[]⟩) 93) (ifb (!cond (decide (x>=1)) (decide (x<=16777216)) false) (k (fE ⟨[],[]⟩) 5) (ifb (decide (lH (λt:TkT=>decide (t.aA=b)) s.tk 0>=0)) (k (fE ⟨[],[]⟩) 150) (k (fE ⟨s.tk++[⟨b,x,Wbf .i64 (x-1)⟩],s.ow⟩) 0)))))):=by
  intro L hL Y k;simp only [dz,FX,s_c,s_d,z];rw [hv L hL,s_0,WcO,jj,VX,zgQ hL hs hb,Lp L (by omega) (by omega),WcQ,cH,cH];have h1:cz 3 1 [(V.sl 1 (eB .u8 b)),(QQe x),(QQe (Wbf .i64 (x-1)))]=[jD ⟨b,x,Wbf .i64 (x-1)⟩]:=rfl;rw [h1,bT (by simp [jj,cy]; omega),bT (by simp [cy]; omega),cH];have h2:WcK (s.tk.length*3) (s.tk.map jD).flatten=(s.tk.map jD).flatten:=WbR (by rw [HV (zQ _),WcO]; omega);rw [h2,show (s.tk.map jD).flatten++[jD ⟨b,x,Wbf .i64 (x-1)⟩].flatten=((s.tk++[(⟨b,x,Wbf .i64 (x-1)⟩:TkT)]).map jD).flatten by simp,
   show s.tk.length+WcJ [jD ⟨b,x,Wbf .i64 (x-1)⟩]=(s.tk++[(⟨b,x,Wbf .i64 (x-1)⟩:TkT)]).length by simp,ST,Ss λw hw=>(hs.ow w hw).hl]
  rfl
 cases v with
 | false=>exact ⟨⟨[],[]⟩,6,qZ,λL hL Y k=>by rw [e L hL]; rfl⟩
 | true=>
 by_cases c1:((s.tk.length:Nat):Int)>=1000
 ·exact ⟨⟨[],[]⟩,4,qZ,λL hL Y k=>by rw [e L hL,WcR,eD,du c1]⟩
 by_cases c2:((b.length:Nat):Int)>520
 ·exact ⟨⟨[],[]⟩,4,qZ,λL hL Y k=>by rw [e L hL,WcR,eD,dt c1,du c2]⟩
 by_cases c3:((b.length:Nat):Int)=0
 ·exact ⟨⟨[],[]⟩,93,qZ,λL hL Y k=>by rw [e L hL,WcR,eD,dt c1,dt c2,fd c3]⟩
 cases c4:cond (decide (x>=1)) (decide (x<=16777216)) false with
 | false=>exact ⟨⟨[],[]⟩,5,qZ,λL hL Y k=>by rw [e L hL,WcR,eD,dt c1,dt c2,eA c3,c4]; rfl⟩
 | true=>
 by_cases c5:lH (λt:TkT=>decide (t.aA=b)) s.tk 0>=0
 ·exact ⟨⟨[],[]⟩,150,qZ,λL hL Y k=>by rw [e L hL,WcR,eD,dt c1,dt c2,eA c3,c4,WcR,eD,du c5]⟩
 ·refine ⟨⟨s.tk++[⟨b,x,Wbf .i64 (x-1)⟩],s.ow⟩,0,⟨λt ht=>?_,by simp; omega,hs.ow,hol⟩,λL hL Y k=>by rw [e L hL,WcR,eD,dt c1,dt c2,eA c3,c4,WcR,eD,dt c5]⟩;rcases Wbt.1 ht with h | h
  ·exact hs.tk t h
  ·obtain rfl:=WcF.1 h;have hx:=Yb c4;refine ⟨hb,hl,by omega,?_⟩;show 0<=Wbf .i64 (x-1)/\Wbf .i64 (x-1)<=16777216;rw [kI (by omega) (by omega)]; omega
theorem zeI(hs:ScOk s)(x:Int):∃ e:Int,(e=0->x<=16777216)/\∀ (L:Nat),2000000<=L->∀ (Y:Type) (k:Int->Option Y),f6 Y L (fE s) x k=k e:=by
 obtain ⟨v,hv⟩:=N9 hs;have htl:=hs.tl;have e:∀ (L:Nat),2000000<=L->∀ (Y:Type) (k:Int->Option Y),f6 Y L (fE s) x k=ifb (!v) (k 6) (ifb (((s.tk.length:Nat):Int)==0) (k 300) (ifb (x != Wbf .i64 (g8 s.tk+1)) (k 300) (ifb (decide (x>16777216)) (k 300) (k 0)))):=by
  intro L hL Y k;simp only [f6,Di,s_c,s_d];rw [hv L hL,s_0,WcO,yJ hL (by omega),cH]
 cases v with
 | false=>exact ⟨6,by omega,λL hL Y k=>by rw [e L hL]; rfl⟩
 | true=>
 by_cases c1:((s.tk.length:Nat):Int)=0
 ·exact ⟨300,by omega,λL hL Y k=>by rw [e L hL,WcR,eD,fd c1]⟩
 by_cases c2:x=Wbf .i64 (g8 s.tk+1);rotate_left
 ·exact ⟨300,by omega,λL hL Y k=>by rw [e L hL,WcR,eD,eA c1,iM,if_neg c2]⟩
 by_cases c3:x>16777216
 ·exact ⟨300,by omega,λL hL Y k=>by rw [e L hL,WcR,eD,eA c1,iM,if_pos c2,du c3]⟩
 ·exact ⟨0,by omega,λL hL Y k=>by rw [e L hL,WcR,eD,eA c1,iM,if_pos c2,dt c3]⟩
theorem zdr{l:List TkT}(h:i<l.length):(l.map jD).flatten[0+((WcL (i:Int))*3)+2]?=some (QQe l[i].r):=by
 rw [show 0+((WcL (i:Int))*3)+2=i*3+2 by simp,On (by omega) (zQ l) (by omega) (fo h)]; rfl
theorem zhr{l:List TkT}(h:i<l.length):(l.map jD).flatten[0+((WcL (i:Int))*3)+1]?=some (QQe l[i].b):=by
 rw [show 0+((WcL (i:Int))*3)+1=i*3+1 by simp,On (by omega) (zQ l) (by omega) (fo h)]; rfl
theorem zd9{l:List TkT}(h:i<l.length)(x:Int):cD (l.map jD).flatten (0+((WcL (i:Int))*3)+2) [V.sc (.int .i64 x)]=((l.set i { l[i] with r:=x }).map jD).flatten:=by
 rw [show 0+((WcL (i:Int))*3)+2=i*3+2 by simp,WU (by omega) (zQ l) (by omega) (fo h),List.map_set]; rfl
theorem za3(l:List TkT):(l.map jD).flatten.length=l.length*3:=by rw [HV (zQ l),WcO]
theorem Yn{l:List TkT}(hl:∀ t∈l,TkOk t)(h:i<l.length)(hx:0<=x/\x<=16777216):∀ t∈l.set i { l[i] with r:=x },TkOk t:=by
 intro t ht;rcases Wda ht with h1 | rfl
 ·exact hl t h1
 ·have:=hl _ (WaV h);exact ⟨this.s,this.l,this.b,hx⟩
theorem Oj{x:Int}(hx:0<=x/\x<=16777216):∀ (m i:Nat) (l:List TkT),(∀ t∈l,TkOk t)->l.length<=1000000->l.length-i=m->∃ l':List TkT,(∀ t∈l',TkOk t)/\l'.length=l.length/\∀ (L n:Nat),m<n->∀ (Y:Type) (kx:uN Y) (a b:Ls) (q:Nat) (c:List V),
  iU ca L kx n x (i:Int) a b l.length q (l.map jD).flatten c=kx a b l'.length q (l'.map jD).flatten c
 | 0,i,l,hl,hn,hi=>⟨l,hl,rfl,λL n hn Y kx a b q c=>by
  obtain ⟨n,rfl⟩:∃ k,n=k+1:=⟨n-1,by omega⟩;rw [iU,li,dt (by omega)]⟩
 | m+1,i,l,hl,hn,hi=>by
  have h:i<l.length:=by omega
  have h2:(0:Int)<=(i:Int)/\(i:Int)<((l.length:Nat):Int):=by omega
  by_cases hr:l[i].r=Wbf .i64 (x-1)
  ·obtain ⟨l',g1,g2,g3⟩:=Oj hx m (i+1) (l.set i { l[i] with r:=x }) (Yn hl h hx) (by simpa using hn) (by simp; omega);refine ⟨l',g1,by simpa using g2,λL n hn Y kx a b q c=>?_⟩;obtain ⟨n,rfl⟩:∃ k,n=k+1:=⟨n-1,by omega⟩;have:=g3 L n (by omega) Y kx a b q c;rw [Wdc] at this;rw [iU,li,du h2.2,bT h2,eQ (zdr h),cH,fd hr,bT h2,bT ⟨rfl,by rw [za3]; simp; omega⟩,zd9 h,cH,cH,up (by omega),this]
  ·obtain ⟨l',g1,g2,g3⟩:=Oj hx m (i+1) l hl hn (by omega);refine ⟨l',g1,g2,λL n hn Y kx a b q c=>?_⟩;obtain ⟨n,rfl⟩:∃ k,n=k+1:=⟨n-1,by omega⟩;rw [iU,li,du h2.2,bT h2,eQ (zdr h),cH,eA hr,cH,up (by omega),g3 L n (by omega)]
theorem zhc(hs:ScOk s)(hx:0<=x/\x<=16777216):∃ tk:List TkT,(∀ t∈tk,TkOk t)/\tk.length=s.tk.length/\∀ (L:Nat),2000000<=L->∀ (Y:Type) (k:List V->Option Y),ft Y L (fE s) x k=k (fE ⟨tk,s.ow⟩):=by
 have htl:=hs.tl;have hol:=hs.ol;obtain ⟨tk,g1,g2,g3⟩:=Oj hx _ 0 s.tk hs.tk (by omega) rfl;refine ⟨tk,g1,g2,λL hL Y k=>?_⟩;simp only [ft,su,yC,s_c,s_d];rw [Lp L (by omega) (by omega)];refine (g3 L L (by omega) Y _ _ _ _ _).trans ?_;rw [oU,ST,Ss λw hw=>(hs.ow w hw).hl];rfl
theorem zgW(h:w.h.length=32)(x:Int):cD (dC w) 37 [V.sc (.int .i64 x)]=dC { w with sp:=x }:=by
 rw [JM (by rw [fM h]; omega)];unfold dC;rw [List.set_append_right _ _ (by rw [iX h]; omega),iX h];rfl
theorem YY(h:w.h.length=32):cz 38 1 (dC w)=[dC w]:=by
 simp only [cz,kJ h]
theorem Fh{l:List OwT}(hl:∀ w∈l,OwOk w)(hn:l.length<=100000)(x:Int):∀ (m i:Nat) (acc:List OwT),(∀ w∈acc,OwOk w)->acc.length<=i->l.length-i=m->i<=l.length->∃ l':List OwT,(∀ w∈l',OwOk w)/\l'.length<=l.length/\∀ (L n:Nat),m<n->∀ (Y:Type) (kx:Ls->Option Y),
  jg L kx n (l.map dC) x (acc.map dC) (i:Int)=kx (l'.map dC)
 | 0,i,acc,ha,hal,hi,hil=>⟨acc,ha,by omega,λL n hn Y kx=>by
  obtain ⟨n,rfl⟩:∃ k,n=k+1:=⟨n-1,by omega⟩;rw [jg,lx,WcO,dt (by omega)]⟩
 | m+1,i,acc,ha,hal,hi,hil=>by
  have h:i<l.length:=by omega
  have hw:=hl _ (WaV h);have app:∀ w:OwT,OwOk w->∀ v∈acc++[w],OwOk v:=λw hw v hv=>(Wbt.1 hv).elim (ha v) λh=>(WcF.1 h) ▸ hw;by_cases c1:l[i].ht>x
  ·obtain ⟨l',g1,g2,g3⟩:=Fh hl hn x m (i+1) acc ha (by omega) (by omega) (by omega);refine ⟨l',g1,g2,λL n hn Y kx=>?_⟩;obtain ⟨n,rfl⟩:∃ k,n=k+1:=⟨n-1,by omega⟩;rw [jg,lx,WcO,du (by omega),fe (fo h),kJ hw.hl,bT ⟨fM hw.hl,by omega⟩,LT hw.hl,cH,eQ (kg hw.hl 2),du c1,cH,up (by omega),g3 L n (by omega)]
  by_cases c2:l[i].sp>x
  ·have hw2:OwOk { l[i] with sp:=0 }:=⟨hw.hl,hw.hb,hw.ix,hw.s,hw.l⟩;obtain ⟨l',g1,g2,g3⟩:=Fh hl hn x m (i+1) (acc++[{ l[i] with sp:=0 }]) (app _ hw2) (by simp; omega) (by omega) (by omega);refine ⟨l',g1,g2,λL n hn Y kx=>?_⟩;obtain ⟨n,rfl⟩:∃ k,n=k+1:=⟨n-1,by omega⟩;have:=g3 L n (by omega) Y kx;rw [WcY] at this;rw [jg,lx,WcO,du (by omega),fe (fo h),kJ hw.hl,bT ⟨fM hw.hl,by omega⟩,LT hw.hl,cH,eQ (kg hw.hl 2),dt c1,eQ (kg hw.hl 4),du c2,bT ⟨rfl,by rw [fM hw.hl]; omega⟩,zgW hw.hl,cH,bT (by rw [fM hw2.hl]; omega),kJ hw2.hl,bT ⟨fM hw2.hl,by omega⟩,VC hw2.hl,YY hw2.hl,bT (by simp [cy]; omega),cH,cH,up (by omega)];exact this
  ·obtain ⟨l',g1,g2,g3⟩:=Fh hl hn x m (i+1) (acc++[l[i]]) (app _ hw) (by simp; omega) (by omega) (by omega);refine ⟨l',g1,g2,λL n hn Y kx=>?_⟩;obtain ⟨n,rfl⟩:∃ k,n=k+1:=⟨n-1,by omega⟩;have:=g3 L n (by omega) Y kx;rw [WcY] at this;rw [jg,lx,WcO,du (by omega),fe (fo h),kJ hw.hl,bT ⟨fM hw.hl,by omega⟩,LT hw.hl,cH,eQ (kg hw.hl 2),dt c1,eQ (kg hw.hl 4),dt c2,bT (by rw [fM hw.hl]; omega),kJ hw.hl,bT ⟨fM hw.hl,by omega⟩,VC hw.hl,YY hw.hl,bT (by simp [cy]; omega),cH,cH,up (by omega)];exact this
theorem zfp(hl:∀ w∈l,OwOk w)(hn:l.length<=100000)(x:Int):∃ l':List OwT,(∀ w∈l',OwOk w)/\l'.length<=l.length/\∀ (L:Nat),2000000<=L->∀ (Y:Type) (k:Ls->Option Y),dy Y L (l.map dC) x k=k (l'.map dC):=by
 obtain ⟨l',g1,g2,g3⟩:=Fh hl hn x _ 0 [] (by simp) (by simp) rfl (by omega);refine ⟨l',g1,g2,λL hL Y k=>?_⟩;simp only [dy,xp,D1];exact (g3 L L (by omega) Y _).trans rfl
theorem Vo{x:Int}(hx:0<=x/\x<=16777216):∀ (m i:Nat) (l:List TkT),(∀ t∈l,TkOk t)->l.length<=1000000->l.length-i=m->∃ l':List TkT,(∀ t∈l',TkOk t)/\l'.length=l.length/\∀ (L n:Nat),m<n->∀ (Y:Type) (kx:wR Y) (d:List V) (a b:Ls) (q:Nat) (c:List V),
  jF cF cd ca dy L kx n x (i:Int) d a b l.length q (l.map jD).flatten c=kx x d a b l'.length q (l'.map jD).flatten c
 | 0,i,l,hl,hn,hi=>⟨l,hl,rfl,λL n hn Y kx d a b q c=>by
  obtain ⟨n,rfl⟩:∃ k,n=k+1:=⟨n-1,by omega⟩;rw [jF,mF,dt (by omega)]⟩
 | m+1,i,l,hl,hn,hi=>by
  have h:i<l.length:=by omega
  have h2:(0:Int)<=(i:Int)/\(i:Int)<((l.length:Nat):Int):=by omega
  have ht:=hl _ (WaV h);have hb:=ht.b;have hr:=ht.r;have hv:0<=Vu (Lc l[i].r x) (Wbf .i64 (l[i].b-1))/\Vu (Lc l[i].r x) (Wbf .i64 (l[i].b-1))<=16777216:=by
   rw [kI (by omega) (by omega)];unfold Vu Lc;split <;> split <;> omega
  obtain ⟨l',g1,g2,g3⟩:=Vo hx m (i+1) (l.set i { l[i] with r:=Vu (Lc l[i].r x) (Wbf .i64 (l[i].b-1)) }) (Yn hl h hv) (by simpa using hn) (by simp; omega);refine ⟨l',g1,by simpa using g2,λL n hn Y kx d a b q c=>?_⟩;obtain ⟨n,rfl⟩:∃ k,n=k+1:=⟨n-1,by omega⟩;have:=g3 L n (by omega) Y kx d a b q c;rw [Wdc] at this;rw [jF,mF,du h2.2,bT h2,eQ (zdr h),cH,bT h2,eQ (zhr h),cH,cH,bT h2,bT ⟨rfl,by rw [za3]; simp; omega⟩,zd9 h,cH,cH,up (by omega),this]
theorem zfY(hs:ScOk s)(x:Int):∃ (s':ScT) (e:Int),ScOk s'/\∀ (L:Nat),2000000<=L->∀ (Y:Type) (k:List V->Int->Option Y),cS Y L (fE s) x k=k (fE s') e:=by
 obtain ⟨v,hv⟩:=N9 hs;have htl:=hs.tl;have hol:=hs.ol;have z:([(V.sl 3 ([]:Ls)),(V.sl 38 ([]:Ls))]:List V)=fE ⟨[],[]⟩:=rfl;cases v with
 | false=>
  refine ⟨⟨[],[]⟩,6,qZ,λL hL Y k=>?_⟩;simp only [cS,nu,pB,s_c,s_d,z];rw [hv L hL]; rfl
 | true=>
 cases c4:cond (decide (x>=0)) (decide (x<=16777216)) false with
 | false=>
  refine ⟨⟨[],[]⟩,5,qZ,λL hL Y k=>?_⟩;simp only [cS,nu,pB,s_c,s_d,z];rw [hv L hL,WcR,eD,VX,c4]; rfl
 | true=>
  obtain ⟨tk,g1,g2,g3⟩:=Vo (Yb c4) _ 0 s.tk hs.tk (by omega) rfl;obtain ⟨ow,g4,g5,g6⟩:=zfp hs.ow (by omega) x;refine ⟨⟨tk,ow⟩,0,⟨g1,by show tk.length<=1000; omega,g4,by show ow.length<=4096; omega⟩,λL hL Y k=>?_⟩;simp only [cS,nu,pB,s_c,s_d,z];rw [hv L hL,WcR,eD,VX,c4,WcR,eD,Lp L (by omega) (by omega)];refine (g3 L L (by omega) Y _ _ _ _ _ _).trans ?_;rw [od,s_1,g6 L hL,ST];rfl
def spd(w:OwT)(x:Int):OwT:={ w with sp:=x }
theorem zai(hl:∀ w∈l,w.h.length=32)(h:i<l.length){j:Nat}(hj:j<5):(l.map dC).flatten[i*38+(33+j)]?=(Hn l[i])[j]?:=by
 rw [On (by omega) (Df hl) (by omega) (fo h),kg (hl _ (WaV h))]
theorem zfV(hl:∀ w∈l,w.h.length=32)(h:i<l.length)(x:Int):cD (l.map dC).flatten ((0+(WcL (i:Int))*38)+37) [V.sc (.int .i64 x)]=((l.set i (spd l[i] x)).map dC).flatten:=by
 have hw:=hl _ (WaV h);have e:=zgW hw x;rw [JM (by rw [fM hw]; omega)] at e;rw [show ((0+(WcL (i:Int))*38)+37)=i*38+37 by simp,WU (by omega) (Df hl) (by omega) (fo h),e,List.map_set]; rfl
theorem Wu(hl:∀ w∈l,w.h.length=32):(l.map dC).flatten.length=l.length*38:=by rw [HV (Df hl),WcO]
theorem zcs(hl:∀ w∈l,OwOk w)(h:i<l.length)(x:Int):∀ w∈l.set i (spd l[i] x),OwOk w:=by
 intro t ht;rcases Wda ht with h1 | rfl
 ·exact hl t h1
 ·have hw:=hl _ (WaV h);exact ⟨hw.hl,hw.hb,hw.ix,hw.s,hw.l⟩
theorem zfB(L:Nat)(v n:Int)(hn:1<=n)(hn2:n<=1000000000000):∃ r,0<=r/\r<n/\∀ (Y:Type) (k:Int->Option Y),dg Y L v n k=k r:=by
 by_cases h:Wde v n<0
 ·have h1:=Int.lt_tmod_of_pos v (show 0<n by omega);refine ⟨Wde v n+n,by omega,by omega,λY k=>?_⟩;simp only [dg,Cu,cH];rw [bT (by omega),du h,kI (by omega) (by omega)]
 ·have h1:=Int.tmod_lt_of_pos v (show 0<n by omega);refine ⟨Wde v n,by omega,h1,λY k=>?_⟩;simp only [dg,Cu,cH];rw [bT (by omega),dt h]
theorem XO(v n:Int)(hn:1<=n)(hn2:n<=1000000000000):∃ r,0<=r/\r<n/\∀ (L:Nat) (Y:Type) (k:Int->Option Y),dg Y L v n k=k r:=by
 obtain ⟨r,h1,h2,h3⟩:=zfB 0 v n hn hn2;exact ⟨r,h1,h2,λL Y k=>h3 Y k⟩
def crw(w:OwT):List V:=gG w++[V.sc (.int .i64 w.val),V.sl 1 (eB .u8 w.aA),V.sc (.int .i64 w.ht),V.sc (.bool w.cb)]
theorem zC(h:w.h.length=32):(crw w).length=37:=by simp [crw,iX h]
theorem zgg(h:w.h.length=32):WcK 37 (dC w)=crw w:=by
 unfold dC crw Hn;rw [List.take_append,iX h,WbR (by rw [iX h]; omega)]; rfl
theorem zes(w:OwT):(crw w).map V.ag=crw w:=by simp only [crw,WcY,V5]; rfl
theorem zc1(h:w.h.length=32):WcK 33 (crw w)=gG w:=by unfold crw; rw [<- iX h,Wdd]
theorem zfz(h:w.h.length=32):(crw w)[34]?=some (V.sl 1 (eB .u8 w.aA)):=by
 unfold crw;rw [Wal (by rw [iX h]; omega),iX h]; rfl
end
section
noncomputable section
def aU8:A:=.iv .u8 0 255
def lm:A:=.iv .u32 0 4294967295
def W4:A:=.iv .u64 0 18446744073709551615
def oR:A:=.iv .i64 (-9223372036854775808) 9223372036854775807
def tv:A:=.iv .i64 0 999
def vY:List A:=Wad 32 aU8
def vt:A:=.agg vY
def vR:A:=.agg (Wad 4 W4)
def Hh:A:=.am 0 1 [[.int .u8 ⟨1,[]⟩],[.int .u8 ⟨1,[]⟩],[.iv .u8 1 6],[.int .u8 ⟨5,[]⟩]]
def zhP:A:=.ai 0 1 0 1 [.am 0 1 [[.iv .u8 1 6]]]
def CW:List A:=lm::(vY++(vY++[lm,lm,lm]))
def DI:A:=.agg CW
def s8:List A:=CW++[W4,W4,W4,W4,.iv .i64 3 7,.int .u32 ⟨5,[]⟩,lm,lm,.am 0 33 [],.int .i64 ⟨1000,[]⟩,.iv .i64 4 6,.iv .i64 0 2]
def mK:A:=.agg s8
def zaS:A:=.ai 0 1 0 11 [lm]
def ER:List A:=oR::(vY++[lm,lm,zaS])
def Aa:A:=.agg ER
def zhy:List A:=vY++[lm]
def Vm:A:=.agg zhy
def zfM:List A:=vY++[lm,lm,zhP]
def Ti:List A:=[oR,Hh]
def aTx:List A:=[lm,.ai 0 35 1 1 zfM,.ai 0 2 1 2 Ti,lm]
def wP:A:=.agg aTx
def tN:List A:=CW++[.ai 0 4 1 4 aTx]
def Aj:A:=.agg tN
def ou:List A:=vY++[lm,oR,Hh,oR,.bool]
def zg8:A:=.agg ou
def qY:Int->A:=λn=>.ai 0 37 0 n ou
def sX:List A:=oR::(vY++[qY 100000])
def pF:A:=.agg sX
def Kj:List A:=[qY 3]
def PG:A:=.agg Kj
def zbS:Int->Int->A:=λn m=>.agg (s8++[.ai 0 69 0 n tN,.ai 0 34 1 m sX,.ai 0 36 1 m ER,.ai 0 1 0 n Kj])
def zh0:SS:=⟨[(0,3),(-9223372036854775808,9223372036854775807),(0,100003),(0,3),(0,100000)],[⟨0,[(0,1),(3,-1)]⟩,⟨-100000,[(2,1),(3,-1)]⟩],rA 2 (.ex .ae) (aU8::.ptr 3 ⟨0,[]⟩::.ptr 4 ⟨0,[]⟩::rA 3 (.ex .ae) (.ak 1 4 ⟨0,[(0,1)]⟩ aTx::.int .i64 ⟨0,[(1,1)]⟩::.ak 1 37 ⟨0,[(2,1)]⟩ ou::.int .u8 ⟨0,[(3,1)]⟩::rA 101 (.ex .ae) [])),rA 3 .gone (.live true s8::.live true (oR::(vY++[.ak 0 37 ⟨0,[(4,1)]⟩ ou]))::rA 108 .gone [])⟩
def zhW:SS:=⟨[(0,3),(-9223372036854775808,9223372036854775807),(0,100003),(0,3),(0,100000),(0,255),(0,100003)],[⟨0,[(2,-1),(6,1)]⟩,⟨0,[(0,1),(3,-1)]⟩,⟨-100000,[(2,1),(3,-1)]⟩,⟨-2,[(3,1)]⟩],rA 2 (.ex .ae) (.int .u8 ⟨0,[(5,1)]⟩::.ptr 3 ⟨0,[]⟩::.ptr 4 ⟨0,[]⟩::rA 3 (.ex .ae) (.ak 1 4 ⟨0,[(0,1)]⟩ aTx::.int .i64 ⟨0,[(1,1)]⟩::.ak 1 37 ⟨0,[(2,1)]⟩ ou::.int .u8 ⟨0,[(3,1)]⟩::.int .i64 ⟨0,[(2,1)]⟩::.int .i64 ⟨0,[(6,1)]⟩::rA 99 (.ex .ae) [])),rA 3 .gone (.live true s8::.live true (oR::(vY++[.ak 0 37 ⟨0,[(4,1)]⟩ ou]))::rA 108 .gone [])⟩
def mdL:List (Nat × MD):=[(513,[(0,none)]),(566,[(0,none)]),(565,[(0,none)]),(563,[(0,none)]),(533,[(0,none)]),(569,[(0,none),(1,none)]),(473,[(0,none)]),(521,[(0,none)]),(482,[(0,none)]),(470,[(0,some zh0),(1,some zhW)]),(480,[(0,none)]),(525,[(0,none)])]
def mdI(g:Nat):MD:=zgN g mdL
def zd1:Inst:=⟨531,[.iv .u64 0 1000000],.ai 1 1 9 72 [aU8]⟩
def Pa:Inst:=⟨569,[.agg (Wad 64 aU8)],.agg (Wad 64 lm)⟩
def Pg:Inst:=⟨533,[.agg (Wad 8 lm),.agg (Wad 64 aU8)],.agg (Wad 8 lm)⟩
def Va:Inst:=⟨494,[.ai 0 1 0 1000 [aU8]],vt⟩
def Iw:Inst:=⟨454,[.ai 0 1 0 1000 [aU8]],vt⟩
def PV:Inst:=⟨429,[DI],vt⟩
def Zh:Inst:=⟨563,[vR,vR,vR],.ah [vR,vR,.bool]⟩
def Jx:Inst:=⟨565,[.agg (Wad 4 (.int .u64 ⟨0,[]⟩))],.int .i64 ⟨0,[]⟩⟩
def Vb:Inst:=⟨565,[vR],.iv .i64 0 256⟩
def O9:Inst:=⟨513,[vR,.iv .i64 0 255],vR⟩
def Zn:Inst:=⟨566,[vR,.iv .i64 0 255],vR⟩
def HQ:Inst:=⟨527,[lm],.ah [vR,tv]⟩
def Ua:Inst:=⟨564,[vR],lm⟩
def R5:Inst:=⟨485,[vt,lm],.bool⟩
def z5:Inst:=⟨515,[mK],.bool⟩
def NX:Inst:=⟨486,[zaS],lm⟩
def V7:Inst:=⟨526,[mK,lm,lm,lm],.ah [lm,tv]⟩
def V8:Inst:=⟨484,[mK,Aa],.ah [lm,tv]⟩
def zb4:Inst:=⟨473,[mK,Aa,vt,lm],DI⟩
def Lg:Inst:=⟨446,[mK,Aa,DI],.ah [Aa,tv]⟩
def TP:Inst:=⟨445,[mK,Aa,DI,lm],tv⟩
def Gl:Inst:=⟨149,[wP,.ex (.sc (.bool true))],.ai 1 1 0 500 [aU8]⟩
def Ll:Inst:=⟨149,[wP,.ex (.sc (.bool false))],.ai 1 1 0 500 [aU8]⟩
def DJ:Inst:=⟨148,[wP],.bool⟩
def Jr:Inst:=⟨132,[wP],tv⟩
def QG:Inst:=⟨488,[Aj],.ai 1 1 0 5000 [aU8]⟩
def X8:Inst:=⟨558,[Aj],.bool⟩
def Zt:Inst:=⟨517,[wP],vt⟩
def zau:Inst:=⟨519,[wP],vt⟩
def VR:Inst:=⟨520,[.ai 0 32 0 4 vY],vt⟩
def Wq:Inst:=⟨474,[.ai 0 4 1 4 aTx],vt⟩
def XR:Inst:=⟨522,[Aj],tv⟩
def zbM:Inst:=⟨478,[wP,.ai 0 37 0 1 ou,oR],.ah [oR,tv]⟩
def w7:Inst:=⟨136,[Vm,Vm],.iv .i64 (-1) 1⟩
def XU:Inst:=⟨521,[pF],.bool⟩
def TB:Inst:=⟨472,[mK,oR],oR⟩
def zfy:Inst:=⟨476,[mK,pF,Aj],tv⟩
def A3:Inst:=⟨483,[wP,oR],.ai 1 37 1 2 ou⟩
def K0:Inst:=⟨480,[qY 100008,Vm],.iv .i64 (-1) 100008⟩
def zez:Inst:=⟨482,[qY 100008],oR⟩
def Qh:Inst:=⟨481,[qY 100000,wP,oR],.ah [.ai 1 37 0 100002 ou,tv]⟩
def WG:Inst:=⟨481,[qY 100002,wP,oR],.ah [.ai 1 37 0 100004 ou,tv]⟩
def zbK:Inst:=⟨481,[qY 100004,wP,oR],.ah [.ai 1 37 0 100006 ou,tv]⟩
def zfC:Inst:=⟨481,[qY 100006,wP,oR],.ah [.ai 1 37 0 100008 ou,tv]⟩
def XZ:Inst:=⟨516,[zg8,aU8],.ah [wP,oR]⟩
def Ha:Inst:=⟨470,[mK,pF,aU8],.ah [.ai 1 4 0 3 aTx,oR]⟩
def YK:Inst:=⟨443,[mK,pF,Aa,aU8],Aj⟩
def TM:Inst:=⟨444,[mK,pF,Aj],.ah [pF,PG,tv]⟩
def YN:Inst:=⟨442,[aU8],zbS 0 1⟩
def zfw:Inst:=⟨422,[aU8,.ai 0 1 0 6 [aU8]],zbS 6 7⟩
end
end
section
noncomputable section
theorem Ux(L:Nat):FOk (cN rows) L 531 (M7 oX L) 1:=eF (D:=0) (by kernel_rfl) λm hm=>⟨gR,gW L,ep,Sf L⟩
theorem Qy(L:Nat):FOk (cN rows) L 476 (BL cj L) 300:=rm (vD 476 L) (NS L)
theorem SU(L:Nat):FOk (cN rows) L 429 (DM co L) 300:=rm (vD 429 L) (RG L)
theorem MU(L:Nat):FOk (cN rows) L 472 (y4 bW L) 300:=rm (vD 472 L) (J6 L)
theorem GZ(L:Nat):FOk (cN rows) L 480 (xt bP L) 1:=eF (D:=0) (by kernel_rfl) λm hm=>⟨jQ,jT L,ep,PW L⟩
theorem wA(L:Nat):FOk (cN rows) L 193 (pR cA L) 1:=eF (D:=0) (by kernel_rfl) λm hm=>⟨xu,xx L,ep,Ms L⟩
theorem Tq(L:Nat):FOk (cN rows) L 453 (DC f5 L) 2:=eF (D:=1) (by kernel_rfl) λm hm=>⟨ku,ky cA L,(cU ep (wA L m (by omega))),O3 L⟩
theorem J1(L:Nat):FOk (cN rows) L 441 (ww bX L) 3:=eF (D:=2) (by kernel_rfl) λm hm=>⟨u6,vd f5 L,(cU ep (Tq L m (by omega))),I6 L⟩
theorem Rz(L:Nat):FOk (cN rows) L 477 (BQ ce L) 4:=eF (D:=3) (by kernel_rfl) λm hm=>⟨fJ,fI bP bX L,(cU (cU ep (GZ L m (by omega))) (J1 L m (by omega))),ON L⟩
theorem QU(L:Nat):FOk (cN rows) L 478 (BF cg L) 300:=rm (vD 478 L) (Nw L)
theorem Uq(L:Nat):FOk (cN rows) L 481 (Gc cw L) 300:=rm (vD 481 L) (SE L)
theorem Mv(L:Nat):FOk (cN rows) L 483 (xR bV L) 300:=rm (vD 483 L) (Ku L)
theorem PB(L:Nat):FOk (cN rows) L 482 (BR ch L) 300:=rm (vD 482 L) (OH L)
theorem MC(L:Nat):FOk (cN rows) L 479 (yF bU L) 1:=eF (D:=0) (by kernel_rfl) λm hm=>⟨wl,wQ L,ep,Ky L⟩
theorem MH(L:Nat):FOk (cN rows) L 444 (EO ka L) 301:=eF (D:=300) (by kernel_rfl) λm hm=>⟨eM,eL cj co bW ce cg cw bV ch bP bU L,(cU (cU (cU (cU (cU (cU (cU (cU (cU (cU ep (Qy L m (by omega))) (SU L m (by omega))) (MU L m (by omega))) (Rz L m (by omega))) (QU L m (by omega))) (Uq L m (by omega))) (Mv L m (by omega))) (PB L m (by omega))) (GZ L m (by omega))) (MC L m (by omega))),J0 L⟩
theorem Vl(L:Nat):FOk (cN rows) L 225 (Ie dF L) 1:=eF (D:=0) (by kernel_rfl) λm hm=>⟨Gd,F6 L,ep,UX L⟩
theorem KV(L:Nat):FOk (cN rows) L 247 (qu fj L) 1:=eF (D:=0) (by kernel_rfl) λm hm=>⟨u4,uI L,ep,Jh L⟩
theorem JO(L:Nat):FOk (cN rows) L 217 (CK dg L) 1:=eF (D:=0) (by kernel_rfl) λm hm=>⟨Fu,Fp L,ep,Uy L⟩
theorem tQ(L:Nat):FOk (cN rows) L 231 (lW bR L) 2:=eF (D:=1) (by kernel_rfl) λm hm=>⟨vi,vm fj dg L,(cU (cU ep (KV L m (by omega))) (JO L m (by omega))),Jl L⟩
theorem Jb(L:Nat):FOk (cN rows) L 423 (pm eZ L) 3:=eF (D:=2) (by kernel_rfl) λm hm=>⟨iw,iA bR L,(cU ep (tQ L m (by omega))),HK L⟩
theorem Si(L:Nat):FOk (cN rows) L 422 (DD gE L) 400:=rm (vD 422 L) (Qx L)
theorem Tb(L:Nat):FOk (cN rows) L 411 (yb dh L) 401:=eF (D:=400) (by kernel_rfl) λm hm=>⟨BM,Bv bR eZ gE L,(cU (cU (cU ep (tQ L m (by omega))) (Jb L m (by omega))) (Si L m (by omega))),Pb L⟩
theorem P9(L:Nat):FOk (cN rows) L 448 (Bz dk L) 1:=eF (D:=0) (by kernel_rfl) λm hm=>⟨zS,z8 L,ep,OQ L⟩
theorem LX(L:Nat):FOk (cN rows) L 136 (xH fu L) 1:=eF (D:=0) (by kernel_rfl) λm hm=>⟨iE,iF L,ep,JD L⟩
theorem DT(L:Nat):FOk (cN rows) L 800 (tX bQ L) 2:=eF (D:=1) (by kernel_rfl) λm hm=>⟨yX,xo fu L,(cU ep (LX L m (by omega))),LZ L⟩
theorem P6(L:Nat):FOk (cN rows) L 792 (BX cv L) 3:=eF (D:=2) (by kernel_rfl) λm hm=>⟨ja,jb bQ L,(cU ep (DT L m (by omega))),NV L⟩
theorem DV(L:Nat):FOk (cN rows) L 831 (xY cd L) 1:=eF (D:=0) (by kernel_rfl) λm hm=>⟨FD,FA L,ep,UG L⟩
theorem Gw(L:Nat):FOk (cN rows) L 832 (xW ck L) 1:=eF (D:=0) (by kernel_rfl) λm hm=>⟨jP,jS L,ep,Qa L⟩
theorem W7(L:Nat):FOk (cN rows) L 791 (Ik hI L) 1:=eF (D:=0) (by kernel_rfl) λm hm=>⟨FN,FO L,ep,UC L⟩
theorem Oi(L:Nat):FOk (cN rows) L 793 (zZ cm L) 2:=eF (D:=1) (by kernel_rfl) λm hm=>⟨yg,xT hI L,(cU ep (W7 L m (by omega))),Md L⟩
theorem yZ(L:Nat):FOk (cN rows) L 817 (rc cF L) 4:=eF (D:=3) (by kernel_rfl) λm hm=>⟨fL,fH cv cd ck cm L,(cU (cU (cU (cU ep (P6 L m (by omega))) (DV L m (by omega))) (Gw L m (by omega))) (Oi L m (by omega))),Ny L⟩
theorem wH(L:Nat):FOk (cN rows) L 829 (pp ca L) 1:=eF (D:=0) (by kernel_rfl) λm hm=>⟨yl,xZ L,ep,MB L⟩
theorem Us(L:Nat):FOk (cN rows) L 819 (F0 dz L) 5:=eF (D:=4) (by kernel_rfl) λm hm=>⟨DO,Dh cF cd ck ca L,(cU (cU (cU (cU ep (yZ L m (by omega))) (DV L m (by omega))) (Gw L m (by omega))) (wH L m (by omega))),R6 L⟩
theorem R4(L:Nat):FOk (cN rows) L 797 (Dy dy L) 1:=eF (D:=0) (by kernel_rfl) λm hm=>⟨kE,kD L,ep,P2 L⟩
theorem OV(L:Nat):FOk (cN rows) L 827 (z9 cS L) 5:=eF (D:=4) (by kernel_rfl) λm hm=>⟨jx,jv cF cd ca dy L,(cU (cU (cU (cU ep (yZ L m (by omega))) (DV L m (by omega))) (wH L m (by omega))) (R4 L m (by omega))),Mg L⟩
theorem o9(L:Nat):FOk (cN rows) L 825 (mD bO L) 1:=eF (D:=0) (by kernel_rfl) λm hm=>⟨iW,iT L,ep,K6 L⟩
theorem IY(L:Nat):FOk (cN rows) L 837 (As cZ L) 2:=eF (D:=1) (by kernel_rfl) λm hm=>⟨lf,lj bO L,(cU ep (o9 L m (by omega))),RS L⟩
theorem SF(L:Nat):FOk (cN rows) L 130 (Dl dr L) 1:=eF (D:=0) (by kernel_rfl) λm hm=>⟨Bu,BU L,ep,Q1 L⟩
theorem BW(L:Nat):FOk (cN rows) L 802 (vO bM L) 2:=eF (D:=1) (by kernel_rfl) λm hm=>⟨kn,km dr L,(cU ep (SF L m (by omega))),Tn L⟩
theorem Ip(L:Nat):FOk (cN rows) L 160 (sO e7 L) 2:=eF (D:=1) (by kernel_rfl) λm hm=>⟨sg,rR cA L,(cU ep (wA L m (by omega))),Gx L⟩
theorem NP(L:Nat):FOk (cN rows) L 194 (zI fT L) 1:=eF (D:=0) (by kernel_rfl) λm hm=>⟨jq,jr L,ep,MP L⟩
theorem Jj(L:Nat):FOk (cN rows) L 159 (u7 ff L) 2:=eF (D:=1) (by kernel_rfl) λm hm=>⟨sN,tT fT cA L,(cU (cU ep (NP L m (by omega))) (wA L m (by omega))),HU L⟩
theorem Pm(L:Nat):FOk (cN rows) L 138 (BV dp L) 3:=eF (D:=2) (by kernel_rfl) λm hm=>⟨Am,zY e7 ff L,(cU (cU ep (Ip L m (by omega))) (Jj L m (by omega))),Nt L⟩
theorem Gn(L:Nat):FOk (cN rows) L 822 (yW cr L) 4:=eF (D:=3) (by kernel_rfl) λm hm=>⟨kC,kF bO cZ bM dp L,(cU (cU (cU (cU ep (o9 L m (by omega))) (IY L m (by omega))) (BW L m (by omega))) (Pm L m (by omega))),QD L⟩
theorem RW(L:Nat):FOk (cN rows) L 840 (DN f6 L) 5:=eF (D:=4) (by kernel_rfl) λm hm=>⟨B4,BH cF bO L,(cU (cU ep (yZ L m (by omega))) (o9 L m (by omega))),Pd L⟩
theorem Ro(L:Nat):FOk (cN rows) L 522 (Bw f9 L) 300:=rm (vD 522 L) (Oy L)
theorem Rq(L:Nat):FOk (cN rows) L 801 (BK bS L) 3:=eF (D:=2) (by kernel_rfl) λm hm=>⟨jX,jV bM L,(cU ep (BW L m (by omega))),Ox L⟩
theorem WB(L:Nat):FOk (cN rows) L 517 (H6 ci L) 300:=rm (vD 517 L) (Ur L)
theorem UM(L:Nat):FOk (cN rows) L 803 (F9 bY L) 3:=eF (D:=2) (by kernel_rfl) λm hm=>⟨gI,gF bQ L,(cU ep (DT L m (by omega))),Sg L⟩
theorem Su(L:Nat):FOk (cN rows) L 795 (C8 fP L) 301:=eF (D:=300) (by kernel_rfl) λm hm=>⟨eC,eE bS bM ci bY L,(cU (cU (cU (cU ep (Rq L m (by omega))) (BW L m (by omega))) (WB L m (by omega))) (UM L m (by omega))),PH L⟩
theorem Mp(L:Nat):FOk (cN rows) L 841 (yv ft L) 2:=eF (D:=1) (by kernel_rfl) λm hm=>⟨i5,i4 ca L,(cU ep (wH L m (by omega))),Kc L⟩
theorem Q7(L:Nat):FOk (cN rows) L 828 (Br cY L) 302:=eF (D:=301) (by kernel_rfl) λm hm=>⟨zK,An f6 f9 cZ fP ft L,(cU (cU (cU (cU (cU ep (RW L m (by omega))) (Ro L m (by omega))) (IY L m (by omega))) (Su L m (by omega))) (Mp L m (by omega))),OR L⟩
theorem Sw(L:Nat):FOk (cN rows) L 814 (xB dm L) 303:=eF (D:=302) (by kernel_rfl) λm hm=>⟨kz,kw bR dk dz cS cr cY L,(cU (cU (cU (cU (cU (cU ep (tQ L m (by omega))) (P9 L m (by omega))) (Us L m (by omega))) (OV L m (by omega))) (Gn L m (by omega))) (Q7 L m (by omega))),Qz L⟩
theorem wh(L:Nat):FOk (cN rows) L 824 (pt bN L) 1:=eF (D:=0) (by kernel_rfl) λm hm=>⟨jz,jB L,ep,L5 L⟩
theorem E9(L:Nat):FOk (cN rows) L 584 (vX cq L) 1:=eF (D:=0) (by kernel_rfl) λm hm=>⟨zy,zW L,ep,OJ L⟩
theorem VD(L:Nat):FOk (cN rows) L 836 (Ia cQ L) 2:=eF (D:=1) (by kernel_rfl) λm hm=>⟨mj,mc bN L,(cU ep (wh L m (by omega))),UH L⟩
theorem I3(L:Nat):FOk (cN rows) L 549 (vp cO L) 2:=eF (D:=1) (by kernel_rfl) λm hm=>⟨sQ,sV cq L,(cU ep (E9 L m (by omega))),HX L⟩
theorem Mo(L:Nat):FOk (cN rows) L 784 (xv cu L) 3:=eF (D:=2) (by kernel_rfl) λm hm=>⟨iY,iZ cO L,(cU ep (I3 L m (by omega))),JG L⟩
theorem Sc(L:Nat):FOk (cN rows) L 844 (yi cG L) 1:=eF (D:=0) (by kernel_rfl) λm hm=>⟨B3,BJ L,ep,Ra L⟩
theorem Dv(L:Nat):FOk (cN rows) L 191 (uy dP L) 1:=eF (D:=0) (by kernel_rfl) λm hm=>⟨xC,xN L,ep,MJ L⟩
theorem Ij(L:Nat):FOk (cN rows) L 158 (tB eY L) 2:=eF (D:=1) (by kernel_rfl) λm hm=>⟨sf,rM dP L,(cU ep (Dv L m (by omega))),Hb L⟩
theorem NW(L:Nat):FOk (cN rows) L 192 (zX fS L) 1:=eF (D:=0) (by kernel_rfl) λm hm=>⟨jt,ju L,ep,MV L⟩
theorem I4(L:Nat):FOk (cN rows) L 157 (vh fh L) 2:=eF (D:=1) (by kernel_rfl) λm hm=>⟨te,tG fS dP L,(cU (cU ep (NW L m (by omega))) (Dv L m (by omega))),Iz L⟩
theorem Vk(L:Nat):FOk (cN rows) L 137 (HT cR L) 3:=eF (D:=2) (by kernel_rfl) λm hm=>⟨FM,FZ eY fh L,(cU (cU ep (Ij L m (by omega))) (I4 L m (by omega))),UP L⟩
theorem UE(L:Nat):FOk (cN rows) L 821 (FP dw L) 4:=eF (D:=3) (by kernel_rfl) λm hm=>⟨gZ,gP bN cq cQ cu cG cR L,(cU (cU (cU (cU (cU (cU ep (wh L m (by omega))) (E9 L m (by omega))) (VD L m (by omega))) (Mo L m (by omega))) (Sc L m (by omega))) (Vk L m (by omega))),SB L⟩
theorem RQ(L:Nat):FOk (cN rows) L 823 (DA dn L) 1:=eF (D:=0) (by kernel_rfl) λm hm=>⟨jR,jU L,ep,Qd L⟩
end
end
section
variable {N L:Nat}{W:Nat->Int}{v:V}{r:List V}{es cs:Ls}{ht ix:Int}{h:List Int}
variable {Y:Type}
theorem zhF{q sz:Nat}{rows:List (List A)}(h:G N W (.am q sz rows) v):∃ es,v=mkL q sz es/\rows.length=es.length:=by
 generalize ha:A.am q sz rows=a at h;cases h <;> first | (cases ha; done) | skip
 rename_i es hl hr hh;cases ha;exact ⟨es,rfl,hl⟩
theorem zgF(h:G N W .bool v):∃ b,v=.sc (.bool b):=by
 cases h with
 | bool b=>exact ⟨b,rfl⟩
structure CoT where
 h:List Int
 ix:Int
 val:Int
 s:Ls
 ht:Int
 cb:Bool
variable {c:CoT}{l:List CoT}
def cpt(c:CoT):List V:=row .u8 c.h++[V.sc (.int .u32 c.ix)]
def dK(c:CoT):List V:=cpt c++[V.sc (.int .i64 c.val),V.sl 1 c.s,V.sc (.int .i64 c.ht),V.sc (.bool c.cb)]
structure CoOk (c:CoT):Prop where
 hl:c.h.length=32
 sl:c.s.length=4
 g:∀ N W,GL N W ou (dK c)
theorem GO(h:c.h.length=32):(cpt c).length=33:=by simp [cpt,fW,h]
theorem wi(h:c.h.length=32):(dK c).length=37:=by simp [dK,GO h]
theorem TG(h:c.h.length=32):WcK 33 (dK c)=cpt c:=by unfold dK; rw [<- GO h,Wdd]
theorem H8(h:c.h.length=32):WcK 37 (dK c)=dK c:=WbR (by rw [wi h]; omega)
theorem zeU(c:CoT):(cpt c).map V.ag=cpt c:=by simp only [cpt,WcY,Sr]; rfl
theorem zc8(c:CoT):(dK c).map V.ag=dK c:=by simp only [dK,WcY,zeU]; rfl
theorem YL(h:c.h.length=32)(j:Nat):(dK c)[33+j]?=[V.sc (.int .i64 c.val),V.sl 1 c.s,V.sc (.int .i64 c.ht),V.sc (.bool c.cb)][j]?:=by
 unfold dK;rw [Wal (by rw [GO h]; omega),GO h];congr 1; omega
theorem zeZ(h:∀ N W,GL N W ou r):∃ c,r=dK c/\CoOk c:=by
 have key:∃ c,r=dK c/\c.h.length=32/\c.s.length=4:=by
  obtain ⟨a,r,rfl,h1,h2⟩:=Hd (h 0 (λ_=>0));obtain ⟨l,rfl,hl,_⟩:=KU h1;obtain ⟨v1,r,rfl,g1,h2⟩:=hY h2;obtain ⟨v2,r,rfl,g2,h2⟩:=hY h2;obtain ⟨v3,r,rfl,g3,h2⟩:=hY h2;obtain ⟨v4,r,rfl,g4,h2⟩:=hY h2;obtain ⟨v5,r,rfl,g5,h2⟩:=hY h2;obtain rfl:=sZ h2;obtain ⟨n1,rfl,_⟩:=qw g1;obtain ⟨n2,rfl,_⟩:=qw g2;obtain ⟨s,rfl,hs⟩:=zhF g3;obtain ⟨n4,rfl,_⟩:=qw g4;obtain ⟨b,rfl⟩:=zgF g5;exact ⟨⟨l,n1,n2,s,n4,b⟩,by simp only [dK,cpt,WcG]; rfl,hl,hs.symm⟩
 obtain ⟨c,rfl,h1,h2⟩:=key;exact ⟨c,rfl,h1,h2,h⟩
theorem OA(h:∀ r∈es,∀ N W,GL N W ou r):∃ l:List CoT,es=l.map dK/\∀ c∈l,CoOk c:=by
 induction es with
 | nil=>exact ⟨[],rfl,by simp⟩
 | cons e es ih=>
  obtain ⟨c,rfl,hc⟩:=zeZ (h _ (Wcy ..));obtain ⟨l,rfl,hl⟩:=ih λr hr=>h r (WcB _ hr);exact ⟨c::l,rfl,λx hx=>(WbL.1 hx).elim (λe=>e ▸ hc) (hl x)⟩
theorem Jv{q sz:Nat}{lo hi:Int}{row:List A}(hq:q<2)(h:∀ N W,G N W (.ai q sz lo hi row) v):∃ es,v=mkL q sz es/\lo<=(es.length:Int)/\(es.length:Int)<=hi/\∀ r∈es,∀ N W,GL N W row r:=by
 obtain ⟨es,rfl,h1,h2,_⟩:=QR (h 0 (λ_=>0));refine ⟨es,rfl,h1,h2,λr hr N W=>?_⟩;obtain ⟨es',e,_,_,h3⟩:=QR (h N W);have:es=es':=by
  match q,hq with
  | 0,_=>simpa [mkL] using e
  | 1,_=>simpa [mkL] using e
 subst this; exact h3 r hr
theorem N8{q sz:Nat}{lo hi:Int}{row:List A}(h1:lo<=(es.length:Int))(h2:(es.length:Int)<=hi)(h:∀ r∈es,GL N W row r):G N W (.ai q sz lo hi row) (mkL q sz es):=
 .ai q sz lo hi row es ⟨h1,h2⟩ (λr hr=>(h r hr).1) (λr hr=>(h r hr).2)
theorem Lw{n:Int}(hl:∀ c∈l,CoOk c)(h:(l.length:Int)<=n):G N W (qY n) (.sl 37 (l.map dK)):=by
 refine N8 (q:=0) (by simp) (by simpa using h) (λr hr=>?_);obtain ⟨c,hc,rfl⟩:=WbX.1 hr;exact (hl c hc).g N W
def j6(ht:Int)(h:List Int)(cs:Ls):List V:=V.sc (.int .i64 ht)::(row .u8 h++[V.sl 37 cs])
theorem kY(hl:h.length=32):(j6 ht h cs).length=34:=by simp [j6,fW,hl]
theorem Bm(hl:h.length=32)(k:Ls->Option Y):cLd 37 (j6 ht h cs) 33 k=k cs:=by
 refine j3 ?_ k;unfold j6;rw [show 33=32+1 by rfl,Wbq,Wal (by rw [fW]; omega),fW,hl]; rfl
theorem D2(k:Int->Option Y):cI .i64 (j6 ht h cs) 0 k=k ht:=eQ rfl k
theorem OI{cs':Ls}(hl:h.length=32):cD (j6 ht h cs) 33 [V.sl 37 cs']=j6 ht h cs':=by
 unfold cD j6;have e:(row Wdf h).length=32:=by rw [fW,hl]
 rw [show (33:Nat)=32+1 by rfl,List.take_succ_cons,List.take_left' e];simp only [WcZ,WcT];rw [show (32+1+(0+1):Nat)=33+1 by rfl,List.drop_succ_cons,show (33:Nat)=(row Wdf h).length+1 by rw [e],List.drop_append];simp
theorem WF:(j6 ht h cs).map V.ag=j6 ht h cs:=by
 simp only [j6,List.map_cons,WcY,Sr]; rfl
theorem zdN{N:Nat}{W:Nat->Int}{k:IntKind}{lo hi:Int}:∀ {l:List Int},(∀ x∈l,lo<=x/\x<=hi)->GL N W (Wad l.length (.iv k lo hi)) (row k l)
 | [],_=>All2.nil
 | x::l,h=>.cons (.iv k lo hi x (h x (by simp))) (zdN λy hy=>h y (by simp [hy]))
theorem WC{cs:List CoT}(h1:-9223372036854775808<=ht/\ht<=9223372036854775807)(hl:h.length=32)(hb:dG h)(hc:∀ c∈cs,CoOk c)(hn:cs.length<=100000):G N W pF (.agg (j6 ht h (cs.map dK))):=by
 have:GL N W sX (j6 ht h (cs.map dK)):=by
  refine .cons (.iv .i64 _ _ ht h1) (All2.append ?_ (.cons (Lw hc (by omega)) .nil));have:=zdN (N:=N) (W:=W) (k:=.u8) (lo:=0) (hi:=255) (l:=h) hb;rw [hl] at this; exact this
 exact .agg _ _ this.1 this.2
theorem zbV{cs:List CoT}(hc:∀ c∈cs,CoOk c)(hn:cs.length<=3):G N W PG (.agg [V.sl 37 (cs.map dK)]):=by
 have:GL N W Kj [V.sl 37 (cs.map dK)]:=.cons (Lw hc (by omega)) .nil;exact .agg _ _ this.1 this.2
theorem gl1{a:A}(h:G N W a v):GL N W [a] [v]:=.cons h .nil
structure TxS where
 n:Int
 h:List Int
 ix:Int
 r:List V
 outs:Ls
 m:Int
def ipt(t:TxS):List V:=row .u8 t.h++[V.sc (.int .u32 t.ix)]
def txr(t:TxS):List V:=[V.sc (.int .u32 t.n),V.sl 35 [ipt t++t.r],V.sl 2 t.outs,V.sc (.int .u32 t.m)]
structure TxSOk (t:TxS):Prop where
 hl:t.h.length=32
 rl:t.r.length=2
 g:∀ N W,GL N W aTx (txr t)
theorem zg6(h:∀ N W,GL N W aTx r):∃ t,r=txr t/\TxSOk t:=by
 have key:∃ t,r=txr t/\t.h.length=32/\t.r.length=2:=by
  obtain ⟨v1,r,rfl,g1,h⟩:=hY (h 0 (λ_=>0));obtain ⟨v2,r,rfl,g2,h⟩:=hY h;obtain ⟨v3,r,rfl,g3,h⟩:=hY h;obtain ⟨v4,r,rfl,g4,h⟩:=hY h;obtain rfl:=sZ h;obtain ⟨n,rfl,_⟩:=qw g1;obtain ⟨m,rfl,_⟩:=qw g4;obtain ⟨es,rfl,e1,e2,e3⟩:=QR g2;obtain ⟨fs,rfl,_⟩:=QR g3;obtain ⟨i,rfl⟩:∃ i,es=[i]:=List.length_eq_one_iff.1 (by omega);obtain ⟨a,r,rfl,h1,h2⟩:=Hd (e3 i (by simp));obtain ⟨l,rfl,hl,_⟩:=KU h1;obtain ⟨w1,r,e4,q1,h3⟩:=hY h2;subst e4;obtain ⟨ix,rfl,_⟩:=qw q1;exact ⟨⟨n,l,ix,r,fs,m⟩,by simp only [txr,ipt,WcG]; rfl,hl,h3.1.symm⟩
 obtain ⟨t,rfl,h1,h2⟩:=key;exact ⟨t,rfl,h1,h2,h⟩
theorem X1{t:TxS}(h:t.h.length=32):(ipt t).length=33:=by simp [ipt,fW,h]
def pc(c:CoT)(h:List Int)(ix:Int):Bool:=decide (c.h=h)&&decide (c.ix=ix)
theorem zeF(hc:c.h.length=32)(hh:h.length=32)(k:Bool->Option Y):eqC 33 (cpt c) (row .u8 h++[V.sc (.int .u32 ix)]) k=k (pc c h ix):=by
 unfold eqC;rw [bT ⟨GO hc,by simp [fW,hh]⟩];have:iQ (cpt c) (row .u8 h++[V.sc (.int .u32 ix)])=some (pc c h ix):=by
  refine FF (by rw [fW,fW,hc,hh]) (Dc .u8 _ _ (by rw [hc,hh])) ?_;simp only [iQ,if_pos,Option.map_some,Bool.and_true];rfl
 rw [this]
theorem zan(l:List CoT)(hl:∀ c∈l,c.h.length=32)(hn:l.length<=1000000)(hh:h.length=32)(kr:Int->Option Y)(kx:Option Y):∀ (n i:Nat),i<=l.length->l.length-i<n ->
  nH L kr kx n (l.map dK) (l.length:Int) (i:Int) (row .u8 h++[V.sc (.int .u32 ix)])=ifb (decide (lH (λc=>pc c h ix) (l.drop i) i>=0)) (kr (lH (λc=>pc c h ix) (l.drop i) i)) kx:=by
 intro n
 induction n with
 | zero=>intro i h1 h2; omega
 | succ n ih=>
  intro i h1 h2;simp only [nH,wz,cH];by_cases hi:i<l.length
  ·have hc:=hl _ (WaV hi);rw [du (by omega),fe (fo hi),bT (by simp [fW,hh]),TG hc,WbR (show (row Wdf h++[V.sc (.int .u32 ix)]).length<=33 by simp [fW,hh]),zeF hc hh,up (by omega),ih (i+1) (by omega) (by omega),List.drop_eq_getElem_cons hi];rw [show lH (λc=>pc c h ix) (l[i]::WcM (i+1) l) i=if pc l[i] h ix=true then (i:Int) else lH (λc=>pc c h ix) (WcM (i+1) l) (i+1) from rfl];cases pc l[i] h ix with
   | true=>rw [gY,if_pos rfl,du (by omega)]
   | false=>rw [eD,if_neg (by simp)]
  ·rw [dt (by omega),List.drop_of_length_le (by omega)];rw [dt (by simp [lH])]
theorem YE(hL:2000000<=L)(hl:∀ c∈l,c.h.length=32)(hn:l.length<=1000000)(hh:h.length=32)(k:Int->Option Y):bP Y L (l.map dK) (row .u8 h++[V.sc (.int .u32 ix)]) k=k (lH (λc=>pc c h ix) l 0):=by
 simp only [bP,yo,Db,WcO];have:=zan (L:=L) l hl hn (ix:=ix) hh (λp4=>nQ L p4 k) (oL L k) L 0 (by omega) (by omega);rw [show ((0:Int))=((0:Nat):Int) from rfl,this,WcP];simp only [nQ,oL];rcases xc (λc=>pc c h ix) l 0 with ⟨e,_⟩ | ⟨i,hi,e,_⟩
 ·rw [e,dt (by omega)]
 ·rw [e,du (by omega)]
end
section
variable {Y:Type}
def zs(n:Nat):Nat:=(64-(n+9) % 64) % 64
def pb(n i:Nat):Int:=Wbf .u8 (JI .u64 (Wbf .u64 ((8:Int)*(n:Int))) ((56-8*i:Nat):Int))
def pbs(n:Nat):Nat->Nat->List Int
 | 0,_=>[]
 | m+1,i=>pb n i::pbs n m (i+1)
theorem XS(n:Nat):∀ m i:Nat,(pbs n m i).length=m
 | 0,_=>rfl
 | m+1,i=>by rw [pbs,WcZ,XS n m]
theorem Uv(n:Int):0<=Wbf .u8 n/\Wbf .u8 n<=255:=by
 unfold Wbf;simp only [IntKind.signed,Bool.false_and,Bool.false_eq_true,if_false];have h1:=Int.emod_nonneg n (show (2:Int) ^ IntKind.bits .u8≠0 by decide);have h2:=Int.emod_lt_of_pos n (show (0:Int)<2 ^ IntKind.bits .u8 by decide);exact ⟨h1,Int.le_of_lt_add_one h2⟩
theorem zaF(n:Nat):∀ m i:Nat,∀ x∈pbs n m i,0<=x/\x<=255
 | 0,_=>λx h=>by simp [pbs] at h
 | m+1,i=>λx h=>by
  rw [pbs,WbL] at h;rcases h with rfl | h
  ·exact Uv _
  ·exact zaF n m (i+1) x h
def NY(n:Nat):List Int:=(128::Wad (zs n) 0)++pbs n 8 0
theorem VZ(n:Nat):(NY n).length=9+zs n:=by simp [NY,XS]; omega
theorem zeQ(n:Nat):∀ x∈NY n,0<=x/\x<=255:=by
 intro x hx;rw [NY,Wbt,WbL] at hx;rcases hx with (rfl | hx) | hx
 ·exact ⟨by decide,by decide⟩
 ·rw [Wdb hx]; exact ⟨by decide,by decide⟩
 ·exact zaF n 8 0 x hx
theorem YV(n:Nat):zs n<64:=Nat.mod_lt _ (by decide)
theorem zfH(n:Nat):(n+9+zs n) % 64=0:=by unfold zs; omega
theorem zfI(n k:Nat)(h:k<zs n):(n+9+k) % 64≠0:=by unfold zs at h; omega
theorem V1(x:Int):cz 1 1 [V.sc (.int .u8 x)]=eB .u8 [x]:=rfl
theorem Rb{Y:Type}(L:Nat){n:Nat}(hn:n<=100000000)(kx:Int->Ls->Option Y):∀ (f m k:Nat),k+m=zs n->m<f->oz L kx f (n:Int) (eB .u8 (128::Wad k 0))=kx (n:Int) (eB .u8 (128::Wad (zs n) 0))
 | 0,m,k,_,h=>by omega
 | f+1,m,k,h1,h2=>by
  have z64:=YV n;unfold oz yy;have e0:Wbf .u64 (((eB .u8 (128::Wad k 0)).length:Nat):Int)=((k+1:Nat):Int):=by
   rw [jj,WcZ,List.length_replicate,NT (by omega) (by omega)]
  have e1:Wbf .u64 ((n:Int)+((k+1:Nat):Int))=((n+(k+1):Nat):Int):=by rw [NT (by omega) (by omega)]; omega
  have e2:Wbf .u64 (((n+(k+1):Nat):Int)+(8:Int))=((n+9+k:Nat):Int):=by rw [NT (by omega) (by omega)]; omega
  have e3:Wde ((n+9+k:Nat):Int) (64:Int)=(((n+9+k) % 64:Nat):Int):=(Int.ofNat_tmod (n+9+k) 64).symm;simp only [cH,e0,e1,e2,e3];rw [iM]
  match m,h1,h2 with
  | 0,h1,h2=>
   have:k=zs n:=by omega
   subst this;rw [if_pos (by rw [zfH]; rfl)]
  | m+1,h1,h2=>
   have hz:=zfI n k (by omega);rw [if_neg (by omega)];rw [V1,C5];rw [bT (by simp [jj,cy]; omega)];have e4:(128::Wad k (0:Int))++[0]=128::Wad (k+1) 0:=by
    rw [List.cons_append,List.replicate_succ']
   rw [e4];exact Rb L hn kx f m (k+1) (by omega) (by omega)
theorem zaG(L:Nat){n i:Nat}(hi:i<8){acc:List Int}(ha:acc.length<=1000000)(kh:Int->Ls->Int->Option Y)(kx:Ls->Option Y):mS L (n:Int) (eB .u8 acc) ((7:Int)-(i:Int)) kh kx=kh (n:Int) (eB .u8 (acc++[pb n i])) ((7:Int)-((i+1:Nat):Int)):=by
 unfold mS;have e8:Wbf .i64 ((8:Int)*((7:Int)-(i:Int)))=((56-8*i:Nat):Int):=by rw [kI (by omega) (by omega)]; omega
 have e1:Wbf .i64 (((7:Int)-(i:Int))-(1:Int))=(7:Int)-((i+1:Nat):Int):=by rw [kI (by omega) (by omega)]; omega
 rw [du (by omega:(7:Int)-(i:Int)>=0)];simp only [cH,e8,e1,V1,C5];rw [bT (by omega),bT (by simp [jj,cy]; omega)];exact Eq.trans rfl rfl
theorem TT{Y:Type}(L n:Nat)(kx:Ls->Option Y):∀ (f m i:Nat) (acc:List Int),i+m=8->m<f->acc.length<=900000+i->lz L kx f (n:Int) (eB .u8 acc) ((7:Int)-(i:Int))=kx (eB .u8 (acc++pbs n m i))
 | 0,m,i,acc,_,h,_=>by omega
 | f+1,0,i,acc,h1,h2,h3=>by
  unfold lz mS;rw [dt (by omega),pbs,List.append_nil]
 | f+1,m+1,i,acc,h1,h2,h3=>by
  unfold lz;rw [zaG L (by omega) (by omega)];refine (TT L n kx f m (i+1) _ (by omega) (by omega) (by simp; omega)).trans ?_;rw [pbs,WcG]; exact Eq.trans rfl rfl
theorem zeS{L:Nat}(hL:100<=L){n:Nat}(hn:n<=100000000)(k:Ls->Option Y):oX Y L (n:Int) k=k (eB .u8 (NY n)):=by
 unfold oX Ax F8;have z64:=YV n;refine (Rb L hn _ L (zs n) 0 (by omega) (by omega)).trans ?_;unfold om uP;refine (TT L n _ L 8 0 _ rfl (by omega) (by simp; omega)).trans ?_;unfold rJ NY;exact Eq.trans rfl rfl
theorem zc0{N:Nat}{W:Nat->Int}{l:List Int}{lo hi:Int}(hb:dG l)(h1:lo<=(l.length:Int))(h2:(l.length:Int)<=hi):G N W (.ai 1 1 lo hi [.iv .u8 0 255]) (.gs 1 (eB .u8 l)):=by
 refine .ai 1 1 lo hi [.iv .u8 0 255] (eB .u8 l) (by rw [jj]; exact ⟨h1,h2⟩) (λr hr=>?_) (λr hr i a v ha hv=>?_)
 ·obtain ⟨x,_,rfl⟩:=WbX.1 hr; rfl
 ·obtain ⟨x,hx,rfl⟩:=WbX.1 hr;cases i with
  | zero=>cases ha; cases hv; exact .iv .u8 0 255 x (hb x hx)
  | succ i=>cases ha
theorem zcA:ed (cN rows) 20 zd1:=by
 refine Yz (D':=1) (by decide) (λL=>Ux L) (λws hw=>?_);have h0:=hw 0 (λ_=>0);obtain ⟨v,r,rfl,g,h0⟩:=hY h0;obtain rfl:=sZ h0;obtain ⟨n,rfl,h1,h2⟩:=qw g;obtain ⟨m,rfl⟩:∃ m:Nat,n=(m:Int):=⟨n.toNat,by omega⟩;refine ⟨.gs 1 (eB .u8 (NY m)),λN W=>zc0 (zeQ m) (by rw [VZ]; omega) (by rw [VZ]; have:=YV m; omega),100,λL hL=>?_⟩;show aI .u64 (.sc (.int .u64 (m:Int))) (λp0=>oX (V × Bor) L p0 λq=>some (V.gs 1 q,[]))=_;rw [EX,zeS hL (by omega)]
end
section
noncomputable section
theorem UQ:ed (cN rows) 10 Pa:=eH (D:=0) (md:=mdI) (is:=[]) (WcX _) 10 (by decide) (by kernel_rfl)
theorem UK:ed (cN rows) 20 Pg:=eH (D:=10) (md:=mdI) (is:=[Pa]) (WcW.2 ⟨cJ (by decide) UQ,WcX _⟩) 10 (by decide) (by kernel_rfl)
theorem NO:ed (cN rows) 30 Va:=eH (D:=20) (md:=mdI) (is:=[zd1,Pg]) (WcW.2 ⟨cJ (by decide) zcA,WcW.2 ⟨cJ (by decide) UK,WcX _⟩⟩) 10 (by decide) (by kernel_rfl)
theorem F4:ed (cN rows) 40 Iw:=eH (D:=30) (md:=mdI) (is:=[Va]) (WcW.2 ⟨cJ (by decide) NO,WcX _⟩) 10 (by decide) (by kernel_rfl)
theorem EU:ed (cN rows) 50 PV:=eH (D:=40) (md:=mdI) (is:=[Iw]) (WcW.2 ⟨cJ (by decide) F4,WcX _⟩) 10 (by decide) (by kernel_rfl)
theorem WK:ed (cN rows) 10 Zh:=eH (D:=0) (md:=mdI) (is:=[]) (WcX _) 10 (by decide) (by kernel_rfl)
theorem EK:ed (cN rows) 10 Jx:=eH (D:=0) (md:=mdI) (is:=[]) (WcX _) 10 (by decide) (by kernel_rfl)
theorem NH:ed (cN rows) 20 Vb:=eH (D:=10) (md:=mdI) (is:=[Jx]) (WcW.2 ⟨cJ (by decide) EK,WcX _⟩) 10 (by decide) (by kernel_rfl)
theorem HJ:ed (cN rows) 10 O9:=eH (D:=0) (md:=mdI) (is:=[]) (WcX _) 10 (by decide) (by kernel_rfl)
theorem W9:ed (cN rows) 10 Zn:=eH (D:=0) (md:=mdI) (is:=[]) (WcX _) 10 (by decide) (by kernel_rfl)
theorem FQ:ed (cN rows) 30 HQ:=eH (D:=20) (md:=mdI) (is:=[Jx,Vb,O9,Zn]) (WcW.2 ⟨cJ (by decide) EK,WcW.2 ⟨cJ (by decide) NH,WcW.2 ⟨cJ (by decide) HJ,WcW.2 ⟨cJ (by decide) W9,WcX _⟩⟩⟩⟩) 10 (by decide) (by kernel_rfl)
theorem VG:ed (cN rows) 30 Ua:=eH (D:=20) (md:=mdI) (is:=[Jx,Vb,O9,Zn]) (WcW.2 ⟨cJ (by decide) EK,WcW.2 ⟨cJ (by decide) NH,WcW.2 ⟨cJ (by decide) HJ,WcW.2 ⟨cJ (by decide) W9,WcX _⟩⟩⟩⟩) 10 (by decide) (by kernel_rfl)
theorem PC:ed (cN rows) 40 R5:=eH (D:=30) (md:=mdI) (is:=[HQ]) (WcW.2 ⟨cJ (by decide) FQ,WcX _⟩) 10 (by decide) (by kernel_rfl)
theorem ux:ed (cN rows) 40 z5:=eH (D:=30) (md:=mdI) (is:=[HQ]) (WcW.2 ⟨cJ (by decide) FQ,WcX _⟩) 10 (by decide) (by kernel_rfl)
theorem MW:ed (cN rows) 10 NX:=eH (D:=0) (md:=mdI) (is:=[]) (WcX _) 10 (by decide) (by kernel_rfl)
theorem Xp:ed (cN rows) 50 V7:=eH (D:=40) (md:=mdI) (is:=[Zh,HQ,Ua,z5]) (WcW.2 ⟨cJ (by decide) WK,WcW.2 ⟨cJ (by decide) FQ,WcW.2 ⟨cJ (by decide) VG,WcW.2 ⟨cJ (by decide) ux,WcX _⟩⟩⟩⟩) 10 (by decide) (by kernel_rfl)
theorem TF:ed (cN rows) 60 V8:=eH (D:=50) (md:=mdI) (is:=[z5,V7]) (WcW.2 ⟨cJ (by decide) ux,WcW.2 ⟨cJ (by decide) Xp,WcX _⟩⟩) 10 (by decide) (by kernel_rfl)
theorem zbR:ed (cN rows) 70 zb4:=eH (D:=60) (md:=mdI) (is:=[PV,R5,NX,V8]) (WcW.2 ⟨cJ (by decide) EU,WcW.2 ⟨cJ (by decide) PC,WcW.2 ⟨cJ (by decide) MW,WcW.2 ⟨cJ (by decide) TF,WcX _⟩⟩⟩⟩) 10 (by decide) (by kernel_rfl)
theorem La:ed (cN rows) 60 Lg:=eH (D:=50) (md:=mdI) (is:=[PV,z5]) (WcW.2 ⟨cJ (by decide) EU,WcW.2 ⟨cJ (by decide) ux,WcX _⟩⟩) 10 (by decide) (by kernel_rfl)
theorem WR:ed (cN rows) 70 TP:=eH (D:=60) (md:=mdI) (is:=[R5,NX,V8,Lg]) (WcW.2 ⟨cJ (by decide) PC,WcW.2 ⟨cJ (by decide) MW,WcW.2 ⟨cJ (by decide) TF,WcW.2 ⟨cJ (by decide) La,WcX _⟩⟩⟩⟩) 10 (by decide) (by kernel_rfl)
end
end
section
noncomputable section
theorem A1:ed (cN rows) 10 Gl:=eH (D:=0) (md:=mdI) (is:=[]) (WcX _) 10 (by decide) (by kernel_rfl)
theorem E7:ed (cN rows) 20 Ll:=eH (D:=10) (md:=mdI) (is:=[Gl]) (WcW.2 ⟨cJ (by decide) A1,WcX _⟩) 10 (by decide) (by kernel_rfl)
theorem xh:ed (cN rows) 30 DJ:=eH (D:=20) (md:=mdI) (is:=[Gl,Ll]) (WcW.2 ⟨cJ (by decide) A1,WcW.2 ⟨cJ (by decide) E7,WcX _⟩⟩) 10 (by decide) (by kernel_rfl)
theorem JH:ed (cN rows) 40 Jr:=eH (D:=30) (md:=mdI) (is:=[DJ]) (WcW.2 ⟨cJ (by decide) xh,WcX _⟩) 10 (by decide) (by kernel_rfl)
theorem Uw:ed (cN rows) 40 QG:=eH (D:=30) (md:=mdI) (is:=[Gl,Ll,DJ]) (WcW.2 ⟨cJ (by decide) A1,WcW.2 ⟨cJ (by decide) E7,WcW.2 ⟨cJ (by decide) xh,WcX _⟩⟩⟩) 10 (by decide) (by kernel_rfl)
theorem ZD:ed (cN rows) 10 X8:=eH (D:=0) (md:=mdI) (is:=[]) (WcX _) 10 (by decide) (by kernel_rfl)
theorem LC:ed (cN rows) 50 Zt:=eH (D:=40) (md:=mdI) (is:=[Iw,Gl,Ll,DJ]) (WcW.2 ⟨cJ (by decide) F4,WcW.2 ⟨cJ (by decide) A1,WcW.2 ⟨cJ (by decide) E7,WcW.2 ⟨cJ (by decide) xh,WcX _⟩⟩⟩⟩) 10 (by decide) (by kernel_rfl)
theorem zbx:ed (cN rows) 50 zau:=eH (D:=40) (md:=mdI) (is:=[Iw,Gl,Ll,DJ]) (WcW.2 ⟨cJ (by decide) F4,WcW.2 ⟨cJ (by decide) A1,WcW.2 ⟨cJ (by decide) E7,WcW.2 ⟨cJ (by decide) xh,WcX _⟩⟩⟩⟩) 10 (by decide) (by kernel_rfl)
theorem XE:ed (cN rows) 40 VR:=eH (D:=30) (md:=mdI) (is:=[Va]) (WcW.2 ⟨cJ (by decide) NO,WcX _⟩) 10 (by decide) (by kernel_rfl)
theorem Tw:ed (cN rows) 60 Wq:=eH (D:=50) (md:=mdI) (is:=[zau,VR]) (WcW.2 ⟨cJ (by decide) zbx,WcW.2 ⟨cJ (by decide) XE,WcX _⟩⟩) 10 (by decide) (by kernel_rfl)
theorem P8:ed (cN rows) 70 XR:=eH (D:=60) (md:=mdI) (is:=[DJ,Jr,QG,X8,Zt,Wq]) (WcW.2 ⟨cJ (by decide) xh,WcW.2 ⟨cJ (by decide) JH,WcW.2 ⟨cJ (by decide) Uw,WcW.2 ⟨cJ (by decide) ZD,WcW.2 ⟨cJ (by decide) LC,WcW.2 ⟨cJ (by decide) Tw,WcX _⟩⟩⟩⟩⟩⟩) 10 (by decide) (by kernel_rfl)
theorem W3:ed (cN rows) 50 zbM:=eH (D:=40) (md:=mdI) (is:=[Va,Zh,Jx,Vb,O9,DJ,Jr]) (WcW.2 ⟨cJ (by decide) NO,WcW.2 ⟨cJ (by decide) WK,WcW.2 ⟨cJ (by decide) EK,WcW.2 ⟨cJ (by decide) NH,WcW.2 ⟨cJ (by decide) HJ,WcW.2 ⟨cJ (by decide) xh,WcW.2 ⟨cJ (by decide) JH,WcX _⟩⟩⟩⟩⟩⟩⟩) 10 (by decide) (by kernel_rfl)
theorem tV:ed (cN rows) 10 w7:=eH (D:=0) (md:=mdI) (is:=[]) (WcX _) 10 (by decide) (by kernel_rfl)
theorem zab:ed (cN rows) 20 XU:=eH (D:=10) (md:=mdI) (is:=[w7]) (WcW.2 ⟨cJ (by decide) tV,WcX _⟩) 10 (by decide) (by kernel_rfl)
theorem Ju:ed (cN rows) 50 TB:=eH (D:=40) (md:=mdI) (is:=[z5]) (WcW.2 ⟨cJ (by decide) ux,WcX _⟩) 10 (by decide) (by kernel_rfl)
theorem YU:ed (cN rows) 80 zfy:=eH (D:=70) (md:=mdI) (is:=[z5,XR,XU]) (WcW.2 ⟨cJ (by decide) ux,WcW.2 ⟨cJ (by decide) P8,WcW.2 ⟨cJ (by decide) zab,WcX _⟩⟩⟩) 10 (by decide) (by kernel_rfl)
theorem sY:ed (cN rows) 60 A3:=eH (D:=50) (md:=mdI) (is:=[Zt]) (WcW.2 ⟨cJ (by decide) LC,WcX _⟩) 10 (by decide) (by kernel_rfl)
theorem EB:ed (cN rows) 10 K0:=eH (D:=0) (md:=mdI) (is:=[]) (WcX _) 10 (by decide) (by kernel_rfl)
theorem Zl:ed (cN rows) 10 zez:=eH (D:=0) (md:=mdI) (is:=[]) (WcX _) 10 (by decide) (by kernel_rfl)
theorem EC:ed (cN rows) 70 Qh:=eH (D:=60) (md:=mdI) (is:=[w7,A3,K0]) (WcW.2 ⟨cJ (by decide) tV,WcW.2 ⟨cJ (by decide) sY,WcW.2 ⟨cJ (by decide) EB,WcX _⟩⟩⟩) 10 (by decide) (by kernel_rfl)
theorem Jq:ed (cN rows) 80 WG:=eH (D:=70) (md:=mdI) (is:=[w7,A3,K0,Qh]) (WcW.2 ⟨cJ (by decide) tV,WcW.2 ⟨cJ (by decide) sY,WcW.2 ⟨cJ (by decide) EB,WcW.2 ⟨cJ (by decide) EC,WcX _⟩⟩⟩⟩) 10 (by decide) (by kernel_rfl)
theorem Ud:ed (cN rows) 90 zbK:=eH (D:=80) (md:=mdI) (is:=[w7,A3,K0,Qh,WG]) (WcW.2 ⟨cJ (by decide) tV,WcW.2 ⟨cJ (by decide) sY,WcW.2 ⟨cJ (by decide) EB,WcW.2 ⟨cJ (by decide) EC,WcW.2 ⟨cJ (by decide) Jq,WcX _⟩⟩⟩⟩⟩) 10 (by decide) (by kernel_rfl)
theorem zbO:ed (cN rows) 100 zfC:=eH (D:=90) (md:=mdI) (is:=[w7,A3,K0,Qh,WG,zbK]) (WcW.2 ⟨cJ (by decide) tV,WcW.2 ⟨cJ (by decide) sY,WcW.2 ⟨cJ (by decide) EB,WcW.2 ⟨cJ (by decide) EC,WcW.2 ⟨cJ (by decide) Jq,WcW.2 ⟨cJ (by decide) Ud,WcX _⟩⟩⟩⟩⟩⟩) 10 (by decide) (by kernel_rfl)
theorem Zj:ed (cN rows) 10 XZ:=eH (D:=0) (md:=mdI) (is:=[]) (WcX _) 10 (by decide) (by kernel_rfl)
theorem Mq:ed (cN rows) 60 Ha:=eH (D:=50) (md:=mdI) (is:=[Zt,XZ]) (WcW.2 ⟨cJ (by decide) LC,WcW.2 ⟨cJ (by decide) Zj,WcX _⟩⟩) 10 (by decide) (by kernel_rfl)
theorem ZA:ed (cN rows) 80 YK:=eH (D:=70) (md:=mdI) (is:=[zb4,Wq,TB,Ha]) (WcW.2 ⟨cJ (by decide) zbR,WcW.2 ⟨cJ (by decide) Tw,WcW.2 ⟨cJ (by decide) Ju,WcW.2 ⟨cJ (by decide) Mq,WcX _⟩⟩⟩⟩) 10 (by decide) (by kernel_rfl)
theorem Zc:ed (cN rows) 60 YN:=eH (D:=50) (md:=mdI) (is:=[PV,O9,z5]) (WcW.2 ⟨cJ (by decide) EU,WcW.2 ⟨cJ (by decide) HJ,WcW.2 ⟨cJ (by decide) ux,WcX _⟩⟩⟩) 10 (by decide) (by kernel_rfl)
end
end
section
variable {v:V}{n:Int}{t:TxS}{cs:List CoT}
variable {Y:Type}
theorem zbp(sz:Nat)(l:Ls)(k:Ls->Option Y):aGs sz (.gs sz l) k=k l:=by show chk (sz=sz) (k l)=k l; exact bT rfl _
theorem zaO{a b:A}(h:∀ N W,G N W (.ah [a,b]) v):∃ x y,v=.ah [x,y]/\(∀ N W,G N W a x)/\∀ N W,G N W b y:=by
 have key:∀ N W,∃ vs,v=.ah vs/\GL N W [a,b] vs:=by
  intro N W;have h:=h N W;generalize hc:A.ah [a,b]=c at h;cases h <;> first | (cases hc; done) | skip
  rename_i vs hl hh;cases hc;exact ⟨vs,rfl,hl,hh⟩
 obtain ⟨vs,rfl,h0⟩:=key 0 (λ_=>0);obtain ⟨x,r,rfl,_,h0⟩:=hY h0;obtain ⟨y,r,rfl,_,h0⟩:=hY h0;obtain rfl:=sZ h0;refine ⟨x,y,rfl,λN W=>?_,λN W=>?_⟩
 ·obtain ⟨vs,e,h⟩:=key N W;cases e;exact h.2 0 _ _ rfl rfl
 ·obtain ⟨vs,e,h⟩:=key N W;cases e;exact h.2 1 _ _ rfl rfl
theorem Yw(h:∀ N W,G N W vt v):∃ l,v=.agg (row .u8 l)/\l.length=32/\dG l:=by
 obtain ⟨vs,rfl,h1⟩:=CL (h 0 (λ_=>0));obtain ⟨l,rfl,hl,hb⟩:=KU h1;exact ⟨l,rfl,hl,hb⟩
theorem zcQ{hd:List V}(hh:∀ N W,G N W DI (.agg hd)):∃ l,l.length=32/\dG l/\Fin2 λL=>∀ (Y:Type) k,co Y L hd k=k (row .u8 l):=by
 obtain ⟨v,g,L0,h⟩:=vM (cJ (D':=300) (by decide) EU) (ws:=[.agg hd]) (λN W=>gl1 (hh N W));obtain ⟨l,rfl,hl,hb⟩:=Yw g;exact ⟨l,hl,hb,L0,λL hL Y k=>(h L hL Y _).trans (ZV _ _)⟩
theorem zag{p l b:List V}(hp:∀ N W,G N W mK (.agg p))(hl:∀ N W,G N W pF (.agg l))(hb:∀ N W,G N W Aj (.agg b)):∃ e,(0<=e/\e<=999)/\Fin2 λL=>∀ (Y:Type) k,cj Y L p l b k=k e:=by
 obtain ⟨v,g,L0,h⟩:=vM (cJ (D':=300) (by decide) YU) (ws:=[.agg p,.agg l,.agg b]) (λN W=>.cons (hp N W) (.cons (hl N W) (gl1 (hb N W))));obtain ⟨e,rfl,he⟩:=qw (g 0 (λ_=>0));exact ⟨e,he,L0,λL hL Y k=>(h L hL Y _).trans (EX _ _ _)⟩
theorem Xr{p:List V}(hp:∀ N W,G N W mK (.agg p))(hn:-9223372036854775808<=n/\n<=9223372036854775807):∃ e,Fin2 λL=>∀ (Y:Type) k,bW Y L p n k=k e:=by
 obtain ⟨v,g,L0,h⟩:=vM (cJ (D':=300) (by decide) Ju) (ws:=[.agg p,.sc (.int .i64 n)]) (λN W=>.cons (hp N W) (gl1 (.iv .i64 _ _ n hn)));obtain ⟨e,rfl,he⟩:=qw (g 0 (λ_=>0));exact ⟨e,L0,λL hL Y k=>(h L hL Y _).trans (EX _ _ _)⟩
theorem YR(h:TxSOk t)(N:Nat)(W:Nat->Int):G N W wP (.agg (txr t)):=.agg _ _ (h.g N W).1 (h.g N W).2
theorem Xz(ht:TxSOk t){c:CoT}(hc:CoOk c)(hn:-9223372036854775808<=n/\n<=9223372036854775807):∃ f e,(-9223372036854775808<=f/\f<=9223372036854775807)/\(0<=e/\e<=999)/\Fin2 λL=>∀ (Y:Type) k,cg Y L (txr t) [dK c] n k=k f e:=by
 obtain ⟨v,g,L0,h⟩:=vM (cJ (D':=300) (by decide) W3) (ws:=[.agg (txr t),.sl 37 [dK c],.sc (.int .i64 n)]) (λN W=>.cons (YR ht N W) (.cons (N8 (q:=0) (by simp) (by simp) (λr hr=>by rw [WcF.1 hr]; exact hc.g N W)) (gl1 (.iv .i64 _ _ n hn))));obtain ⟨x,y,rfl,h1,h2⟩:=zaO g;obtain ⟨f,rfl,hf⟩:=qw (h1 0 (λ_=>0));obtain ⟨e,rfl,he⟩:=qw (h2 0 (λ_=>0));refine ⟨f,e,hf,he,L0,λL hL Y k=>(h L hL Y _).trans ?_⟩;simp only [AT2,AI,EX]
theorem zgk(g:∀ N W,G N W (.ah [.ai 1 37 0 n ou,tv]) v):∃ (cs:List CoT) (e:Int),v=.ah [.gs 37 (cs.map dK),.sc (.int .i64 e)]/\(∀ c∈cs,CoOk c)/\(cs.length:Int)<=n/\(0<=e/\e<=999):=by
 obtain ⟨x,y,rfl,h1,h2⟩:=zaO g;obtain ⟨es,rfl,_,hn,hr⟩:=Jv (by omega) h1;obtain ⟨l,rfl,hl⟩:=OA hr;obtain ⟨e,rfl,he⟩:=qw (h2 0 (λ_=>0));exact ⟨l,e,rfl,hl,by simpa using hn,he⟩
theorem XH(ht:TxSOk t)(hc:∀ c∈cs,CoOk c)(hn:-9223372036854775808<=n/\n<=9223372036854775807){j:Nat}(hj:j<=3)(hl:cs.length<=100000+2*j) :
  ∃ (cs':List CoT) (e:Int),(∀ c∈cs',CoOk c)/\cs'.length<=100000+2*(j+1)/\(0<=e/\e<=999)/\Fin2 λL=>∀ (Y:Type) k,cw Y L (cs.map dK) (txr t) n k=k (cs'.map dK) e:=by
 have fin:∀ {i:Inst} {m:Int},ed (cN rows) 300 i->i.g=481->i.args=[qY (100000+2*j:Nat),wP,oR]->i.res=.ah [.ai 1 37 0 m ou,tv]->m<=(100000+2*(j+1):Nat)->∃ (cs':List CoT) (e:Int),(∀ c∈cs',CoOk c)/\cs'.length<=100000+2*(j+1)/\(0<=e/\e<=999)/\Fin2 λL=>∀ (Y:Type) k,cw Y L (cs.map dK) (txr t) n k=k (cs'.map dK) e:=by
  intro i m hi hg ha hres hm;obtain ⟨v,g,L0,h⟩:=vM hi (ws:=[.sl 37 (cs.map dK),.agg (txr t),.sc (.int .i64 n)]) (λN W=>by
   rw [ha];exact .cons (Lw hc (by exact_mod_cast hl)) (.cons (YR ht N W) (gl1 (.iv .i64 _ _ n hn))))
  rw [hres] at g;obtain ⟨cs',e,rfl,q1,q2,q3⟩:=zgk g;rw [hg] at h;refine ⟨cs',e,q1,by omega,q3,L0,λL hL Y k=>(h L hL Y _).trans ?_⟩;simp only [AT2,AI,AGs,EX,zbp]
 match j,hj with
 | 0,_=>exact fin (cJ (by decide) EC) rfl rfl rfl (by decide)
 | 1,_=>exact fin (cJ (by decide) Jq) rfl rfl rfl (by decide)
 | 2,_=>exact fin (cJ (by decide) Ud) rfl rfl rfl (by decide)
 | 3,_=>exact fin (cJ (by decide) zbO) rfl rfl rfl (by decide)
theorem XC(ht:TxSOk t)(hn:-9223372036854775808<=n/\n<=9223372036854775807):∃ cs:List CoT,(∀ c∈cs,CoOk c)/\cs.length<=2/\Fin2 λL=>∀ (Y:Type) k,bV Y L (txr t) n k=k (cs.map dK):=by
 obtain ⟨v,g,L0,h⟩:=vM (cJ (D':=300) (by decide) sY) (ws:=[.agg (txr t),.sc (.int .i64 n)]) (λN W=>.cons (YR ht N W) (gl1 (.iv .i64 _ _ n hn)));obtain ⟨es,rfl,_,hm,hr⟩:=Jv (by omega) g;obtain ⟨l,rfl,hl⟩:=OA hr;refine ⟨l,hl,by simp at hm; omega,L0,λL hL Y k=>(h L hL Y _).trans ?_⟩;exact zbp 37 _ _
theorem Un(hc:∀ c∈cs,CoOk c)(hl:cs.length<=100008):∃ n,Fin2 λL=>∀ (Y:Type) k,ch Y L (cs.map dK) k=k n:=by
 obtain ⟨v,g,L0,h⟩:=vM (cJ (D':=300) (by decide) Zl) (ws:=[.sl 37 (cs.map dK)]) (λN W=>gl1 (Lw hc (by omega)));obtain ⟨n,rfl,_⟩:=qw (g 0 (λ_=>0));exact ⟨n,L0,λL hL Y k=>(h L hL Y _).trans (EX _ _ _)⟩
end
section
variable {L:Nat}{c:CoT}{t:TxS}
variable {Y:Type}
theorem zhl(hL:3<=L){s:Ls}(hs:s.length<=1000)(k:Ls->Option Y):f5 Y L [[V.sl 1 s]] k=k s:=by
 obtain ⟨n,rfl⟩:∃ n,L=n+3:=⟨L-3,by omega⟩;have hj:∀ (k:Ls->Option Y),cA Y (n+3) [] s k=k s:=by
  intro k;simp only [cA,uq,cH,WcT];rw [kI (by omega) (by omega),bT (by simp only [cy]; omega),bT (by simp [cy]),
   List.replicate_zero,WcQ,bT (by simp only [WcT,cy]; omega),WcQ]
 simp only [f5,xP,DB,pi,uQ,cH];rw [du (by simp),wx (by decide) (c:=[V.sl 1 s]) rfl,ro rfl,hj,dt (by exact (by decide:¬ Wbf .i64 ((0:Int)+1)<((1:Nat):Int)))];rfl
theorem zcU(c:CoT)(hl:c.h.length=32)(L:Nat)(k:List V->Option Y):bX Y L (dK c) k=f5 Y L [[V.sl 1 c.s]] (λv=>k (dK { c with s:=v })):=by
 obtain ⟨h,ix,val,s,ht,cb⟩:=c
 match h,hl with
 | [x0,x1,x2,x3,x4,x5,x6,x7,x8,x9,x10,x11,x12,x13,x14,x15,x16,x17,x18,x19,x20,x21,x22,x23,x24,x25,x26,x27,x28,x29,x30,x31],_=>rfl
theorem ze6(hc:CoOk c)(hL:3<=L)(k:List V->Option Y):bX Y L (dK c) k=k (dK c):=by
 rw [zcU c hc.hl,zhl hL (by rw [hc.sl]; omega)]
theorem zdZ(h:c.h.length=32):cD (Wad 32 (QQa (0:Int))++[(QQc (0:Int)),(QQe (0:Int)),(V.gs 1 ([]:Ls)),(QQe (0:Int)),(V.sc (.bool false))]) 0 (dK c)=dK c:=j8 (by rw [wi h]; rfl)
theorem zgG(h:c.h.length=32):cD (Wad 32 (QQa (0:Int))++[(QQc (0:Int)),(QQe (0:Int)),(V.sl 1 ([]:Ls)),(QQe (0:Int)),(V.sc (.bool false))]) 0 (dK c)=dK c:=j8 (by rw [wi h]; rfl)
theorem zhC(h:c.h.length=32):cz 37 1 (dK c)=[dK c]:=by
 simp only [cz,H8 h]
theorem zd5(t:TxS):cD [(QQc (0:Int)),(V.gs 35 ([]:Ls)),(V.gs 2 ([]:Ls)),(QQc (0:Int))] 0 (WcK 4 (txr t))=txr t:=rfl
theorem zfR(t:TxS)(k:Ls->Option Y):cLd 35 (txr t) 1 k=k [ipt t++t.r]:=j3 rfl k
theorem Rr(ht:TxSOk t):(ipt t++t.r).length=35:=by rw [List.length_append,X1 ht.hl,ht.rl]
theorem zhq(ht:TxSOk t):cD (Wad 32 (QQa (0:Int))++[(QQc (0:Int)),(QQc (0:Int)),(V.gs 1 ([]:Ls))]) 0 (WcK 35 (ipt t++t.r))=ipt t++t.r:=by
 rw [WbR (by rw [Rr ht]; omega)];exact j8 (by rw [Rr ht]; rfl)
theorem zbZ(ht:TxSOk t):WcK 33 (ipt t++t.r)=row .u8 t.h++[V.sc (.int .u32 t.ix)]:=by
 rw [<- X1 ht.hl,Wdd]; rfl
theorem zb5{p:List V}{mat:Int}(hp:p[79]?=some (QQe mat)){cs:List CoT}(hc:∀ c∈cs,CoOk c)(hn:cs.length<=1000000)(ht:TxSOk t)(n:Int) :
  ∃ (out:List CoT) (e:Int),(∀ L,2000000<=L->∀ (Y:Type) (k:Ls->Int->Option Y),ce Y L p (cs.map dK) (txr t) n k=k (out.map dK) e)/\(0<=e/\e<=999)/\((e≠0/\out=[])∨(e=0/\∃ c∈cs,out=[c])):=by
 have hf:∀ (L:Nat),2000000<=L->∀ (Y:Type) (k:Int->Option Y),bP Y L (cs.map dK) (row .u8 t.h++[V.sc (.int .u32 t.ix)]) k=k (lH (λc=>pc c t.h t.ix) cs 0):=λL hL Y k=>YE hL (λc h=>(hc c h).hl) hn ht.hl k;have e1:∀ (L:Nat),2000000<=L->∀ (Y:Type) (k:Ls->Int->Option Y),ce Y L p (cs.map dK) (txr t) n k =
   (ifb (decide (lH (λc=>pc c t.h t.ix) cs 0<0)) (k [] 101) (idx (cs.map dK) (lH (λc=>pc c t.h t.ix) cs 0) λc4=>bX Y L (List.map V.ag (WcK 37 c4)) λv5=>
    chk ((WcJ v5)=37/\0+37<=37) (
    chk ((WcJ ([]:Ls)+WcJ (cz 37 1 (cD (Wad 32 (QQa (0:Int))++[(QQc (0:Int)),(QQe (0:Int)),(V.sl 1 ([]:Ls)),(QQe (0:Int)),(V.sc (.bool false))]) 0 v5)))*88<=cy/\WcJ ([]:Ls)+WcJ (cz 37 1 (cD (Wad 32 (QQa (0:Int))++[(QQc (0:Int)),(QQe (0:Int)),(V.sl 1 ([]:Ls)),(QQe (0:Int)),(V.sc (.bool false))]) 0 v5))<=cy) (
    jE bP bX L n ([]++(cz 37 1 (cD (Wad 32 (QQa (0:Int))++[(QQc (0:Int)),(QQe (0:Int)),(V.sl 1 ([]:Ls)),(QQe (0:Int)),(V.sc (.bool false))]) 0 v5))) p k)))):=by
  intro L hL Y k;obtain ⟨m,rfl⟩:∃ m,L=m+2:=⟨L-2,by omega⟩;simp only [ce,vW,Bt,zfR];rw [ot,tR,du (by simp),wx (by decide) (c:=ipt t++t.r) rfl,bT ⟨by rw [WbR (by rw [Rr ht]; omega),Rr ht],by omega⟩,zhq ht,cH,bT (by rw [Rr ht]; omega),zbZ ht,hf _ hL];congr 1
 rcases xc (λc=>pc c t.h t.ix) cs 0 with ⟨e,_⟩ | ⟨i,hi,e,_⟩
 ·refine ⟨[],101,λL hL Y k=>?_,by omega,.inl ⟨by omega,rfl⟩⟩;rw [e1 L hL,e,du (by omega)]; rfl
 ·have hci:=hc _ (WaV hi);have e2:∀ (L:Nat),2000000<=L->∀ (Y:Type) (k:Ls->Int->Option Y),ce Y L p (cs.map dK) (txr t) n k=jE bP bX L n [dK cs[i]] p k:=by
   intro L hL Y k;rw [e1 L hL,e,dt (by omega),Nat.zero_add,fe (fo hi),H8 hci.hl,zc8,ze6 hci (by omega),bT ⟨wi hci.hl,by omega⟩,zgG hci.hl,zhC hci.hl,bT (by simp [cy]),WcQ]
  have e3:∀ (L:Nat),2000000<=L->∀ (Y:Type) (k:Ls->Int->Option Y),ce Y L p (cs.map dK) (txr t) n k=ifb cs[i].cb (ifb (decide (Wbf .i64 (n-cs[i].ht)<mat)) (k [] 230) (k [dK cs[i]] 0)) (k [dK cs[i]] 0):=by
   intro L hL Y k;rw [e2 L hL];obtain ⟨m,rfl⟩:∃ m,L=m+2:=⟨L-2,by omega⟩;have h36:(dK cs[i])[36]?=some (V.sc (.bool cs[i].cb)):=YL hci.hl 3;have h35:(dK cs[i])[35]?=some (QQe cs[i].ht):=YL hci.hl 2;simp only [jE,qS];rw [kj,nX,du (by simp),wx (by decide) (c:=dK cs[i]) rfl,H8 hci.hl,bT ⟨wi hci.hl,by omega⟩,zdZ hci.hl,cH,ze9 h36];have hx:∀ (x:Int),x=Wbf .i64 ((0:Int)+1)->kj bP bX (m+2) (λp8 p9=>oN bP bX (m+2) p8 p9 k) (λp10=>pM bP bX (m+2) p10 k) (m+1) n [dK cs[i]] [dK cs[i]] ((WcJ [dK cs[i]]:Nat):Int) x p=k [dK cs[i]] 0:=by
    rintro x rfl
    rw [kj,nX,dt (by exact (by decide:¬ Wbf .i64 ((0:Int)+1)<((1:Nat):Int)))]; rfl
   cases cs[i].cb with
   | true=>
    rw [gY,gY,eQ h35,cH,eQ hp];by_cases hm:Wbf .i64 (n-cs[i].ht)<mat
    ·rw [du hm,du hm]; rfl
    ·rw [dt hm,dt hm,cH,hx _ rfl]
   | false=>rw [eD,eD,cH,hx _ rfl]
  by_cases hcond:cs[i].cb=true/\Wbf .i64 (n-cs[i].ht)<mat
  ·refine ⟨[],230,λL hL Y k=>?_,by omega,.inl ⟨by omega,rfl⟩⟩;rw [e3 L hL,hcond.1,gY,du hcond.2]; rfl
  ·refine ⟨[cs[i]],0,λL hL Y k=>?_,by omega,.inr ⟨rfl,_,WaV hi,rfl⟩⟩;rw [e3 L hL];cases hb:cs[i].cb with
   | true=>
    rw [gY,dt (λh=>hcond ⟨hb,h⟩)]; rfl
   | false=>rfl
end
section
variable {cs:List CoT}
variable {Y:Type}
def Z9:A->Bool
 | .int _ _ | .iv _ _ _ | .bool | .agg _=>true
 | .ak 0 _ _ _ | .ai 0 _ _ _ _ | .am 0 _ _=>true
 | _=>false
theorem zhn{N:Nat}{W:Nat->Int}{a:A}{v:V}(h:G N W a v)(ha:Z9 a=true):v.ag=v:=by
 cases h <;> first | rfl | (simp [Z9] at ha; done) | skip
 all_goals
  unfold Z9 at ha;split at ha <;> first | rfl | (cases ha; done) | skip
  all_goals first | rfl | (rename_i e; cases e; rfl) | simp_all [mkL]
theorem Hl{N:Nat}{W:Nat->Int}:∀ {xs:List A} {vs:List V},xs.all Z9=true->GL N W xs vs->vs.map V.ag=vs
 | [],vs,_,h=>by rw [sZ h]; rfl
 | a::xs,vs,ha,h=>by
  obtain ⟨v,r,e,g,h2⟩:=hY h;subst e;rw [List.all_cons,Bool.and_eq_true] at ha;rw [List.map_cons,zhn g ha.1,Hl ha.2 h2]
theorem Zi{L:Nat}(hn:cs.length<=1000000){i:Nat}(hi:i<cs.length)(k:Ls->Option Y):bU Y L (cs.map dK) (i:Int) k=k ((cs.take i++cs.drop (i+1)).map dK):=by
 have e2:WcK (cs.length-(i+1)) (WcM (i+1) (cs.map dK))=WcM (i+1) (cs.map dK):=WbR (by simp);simp only [bU,yV,cH,WcO,up (show i<=1000000000 by omega),Int.toNat_natCast,WcQ,WcT,WcP,Nat.sub_zero];rw [bT (by omega),bT (by simp only [List.length_take,WcO,cy]; omega),bT (by omega),bT (by simp only [List.length_take,List.length_drop,WcO,cy]; omega),e2,WcY,List.map_take,List.map_drop]
def zlr:List V:=j6 0 (Wad 32 0) []
def zur:List V:=[V.sl 37 []]
def zb6:List V:=[(QQe (0:Int))]++Wad 32 (QQa (0:Int))++[(V.gs 37 ([]:Ls))]
theorem G8:([(QQe (0:Int))]++Wad 32 (QQa (0:Int))++[(V.sl 37 ([]:Ls))])=zlr:=rfl
theorem G9:zlr.length=34:=rfl
theorem Hs(l:List V)(h:l.length=34):cD zb6 0 l=l:=j8 (by rw [h]; rfl)
theorem Ru(t:TxS):(txr t).length=4:=rfl
theorem JB(t:TxS):WcK 4 (txr t)=txr t:=rfl
theorem WQ(t:TxS):List.map V.ag (txr t)=txr t:=rfl
theorem zcE(hc:∀ c∈cs,CoOk c)(hn:cs.length<=1000000){c:CoT}(hm:c∈cs):∃ cs':List CoT,(∀ c∈cs',CoOk c)/\cs'.length<=cs.length /\
  ∀ (L:Nat),3000000<=L->∀ (Y:Type) (kx:u3 Y) (p12:Int) (p15:Ls) (p17:Int) (p46:Ls) (p47 p48:Int) (b3 b5 b6:List V) (b7:Ls) (ht:Int) (hh:List Int) (us:Ls) (b14:List V),hh.length=32 ->
   e9 cj co bW ce cg cw bV ch bP bU L kx L p12 p15 p17 p46 p47 p48 [dK c] 1 0 b3 b5 b6 b7 (j6 ht hh (cs.map dK)) us b14=kx p12 p15 p17 p46 p47 p48 b3 b5 b6 b7 (j6 ht hh (cs'.map dK)) us b14:=by
 rcases xc (λx=>pc x c.h c.ix) cs 0 with ⟨_,h⟩ | ⟨i,hi,e,_⟩
 ·have:=h c hm;simp [pc] at this
 ·refine ⟨cs.take i++cs.drop (i+1),λx hx=>?_,by simp; omega,λL hL Y kx p12 p15 p17 p46 p47 p48 b3 b5 b6 b7 ht hh us b14 hhl=>?_⟩
  ·rcases Wbt.1 hx with h | h
   ·exact hc x (WaI h)
   ·exact hc x (WaP h)
  ·have hl:=(hc c hm).hl;obtain ⟨m,rfl⟩:∃ m,L=m+2:=⟨L-2,by omega⟩;rw [e9,hS,du (by decide),wx (by decide) (c:=dK c) rfl,H8 hl,bT ⟨wi hl,by omega⟩,zdZ hl,cH,Bm hhl,Bm hhl,bT (by rw [wi hl]; omega),TG hl,
    show cpt c=row .u8 c.h++[V.sc (.int .u32 c.ix)] from rfl,YE (by omega) (λx hx=>(hc x hx).hl) hn hl,e,Nat.zero_add,Zi hn hi,bT (by rw [kY hhl]; omega),OI hhl,cH,cH,e9,hS,dt (by decide)]
section
variable {p:List V} {mat:Int}
theorem J9(hp:p[79]?=some (QQe mat))(hpl:p.length=80)(hpd:p.map V.ag=p){l:List TxS}(hl:∀ t∈l,TxSOk t)(hll:l.length<=4){ht:Int}(hr:-9223372036854775808<=ht/\ht<=9223372036854775807){hh:List Int}(hhl:hh.length=32) :
  ∀ (m i:Nat),i+m=l.length->∀ (most:Int) (cs us:List CoT),(∀ c∈cs,CoOk c)->cs.length<=100000+2*i->(∀ c∈us,CoOk c)->us.length<=i-1 ->
  (∃ e:Int,(0<=e/\e<=999)/\Fin2 λL=>∀ (n:Nat),m<n->∀ (Y:Type) (kr:Int->List V->List V->Option Y) (kx:jh Y) (b5:List V),ew cj co bW ce cg cw bV ch bP bU L kr kx n most (l.map txr) (l.length:Int) (i:Int) p b5 zb6 [] (j6 ht hh (cs.map dK)) (us.map dK)=kr e zlr zur) ∨
  (∃ (most':Int) (cs' us':List CoT),(∀ c∈cs',CoOk c)/\cs'.length<=100008/\(∀ c∈us',CoOk c)/\us'.length<=3/\Fin2 λL=>∀ (n:Nat),m<n->∀ (Y:Type) (kr:Int->List V->List V->Option Y) (kx:jh Y) (b5:List V),ew cj co bW ce cg cw bV ch bP bU L kr kx n most (l.map txr) (l.length:Int) (i:Int) p b5 zb6 [] (j6 ht hh (cs.map dK)) (us.map dK)=kx most' b5 zb6 [] (j6 ht hh (cs'.map dK)) (us'.map dK))
 | 0,i,hi,most,cs,us,hc,hn,hu,hul=>by
  refine .inr ⟨most,cs,us,hc,by omega,hu,by omega,0,λL _ n hn Y kr kx b5=>?_⟩;obtain ⟨n,rfl⟩:∃ k,n=k+1:=⟨n-1,by omega⟩;rw [ew,iR,kq,dt (by omega)]
 | m+1,i,hi,most,cs,us,hc,hn,hu,hul=>by
  have hil:i<l.length:=by omega
  have ht1:=hl _ (WaV hil);have hi3:i<=3:=by omega
  by_cases h0:i=0
  ·obtain ⟨cs1,e,hc1,hn1,he,L1,h1⟩:=XH (n:=ht) ht1 hc hr (j:=i) hi3 hn;have step:∀ (L:Nat),L1<=L->∀ (n:Nat) (Y:Type) (kr:Int->List V->List V->Option Y) (kx:jh Y) (b5:List V),ew cj co bW ce cg cw bV ch bP bU L kr kx (n+1) most (l.map txr) (l.length:Int) (i:Int) p b5 zb6 [] (j6 ht hh (cs.map dK)) (us.map dK) =
     if e=0 then ew cj co bW ce cg cw bV ch bP bU L kr kx n most (l.map txr) (l.length:Int) ((i+1:Nat):Int) p b5 zb6 [] (j6 ht hh (cs1.map dK)) (us.map dK) else kr e zlr zur:=by
    intro L hL n Y kr kx b5;rw [ew,iR,kq,du (by omega),fe (fo hil),bT ⟨rfl,by omega⟩,zd5,cH,dt (by omega),Bm hhl,bT (by rw [Ru]; omega),D2,JB,WQ,h1 L hL,iM];by_cases he0:e=0
    ·rw [if_pos he0,if_pos he0,bT (by rw [kY hhl]; omega),OI hhl,cH,cH,up (by omega)]
    ·rw [if_neg he0,if_neg he0,bT ⟨rfl,by decide⟩,G8,Hs _ G9,cH,cH]; rfl
   by_cases he0:e=0
   ·rcases J9 hp hpl hpd hl hll hr hhl m (i+1) (by omega) most cs1 us hc1 hn1 hu (by omega) with ⟨e2,g1,L2,g2⟩ | ⟨m2,cs2,us2,g1,g2,g3,g4,L2,g5⟩
    ·refine .inl ⟨e2,g1,L1+L2,λL hL n hn Y kr kx b5=>?_⟩;obtain ⟨n,rfl⟩:∃ k,n=k+1:=⟨n-1,by omega⟩;rw [step L (by omega),if_pos he0,g2 L (by omega) n (by omega)]
    ·refine .inr ⟨m2,cs2,us2,g1,g2,g3,g4,L1+L2,λL hL n hn Y kr kx b5=>?_⟩;obtain ⟨n,rfl⟩:∃ k,n=k+1:=⟨n-1,by omega⟩;rw [step L (by omega),if_pos he0,g5 L (by omega) n (by omega)]
   ·refine .inl ⟨e,he,L1,λL hL n hn Y kr kx b5=>?_⟩;obtain ⟨n,rfl⟩:∃ k,n=k+1:=⟨n-1,by omega⟩;rw [step L hL,if_neg he0]
  ·obtain ⟨out,e,h1,he,hout⟩:=zb5 hp hc (by omega) ht1 ht;have kH:∀ (L:Nat),3000000<=L->∀ (n:Nat) (Y:Type) (kr:Int->List V->List V->Option Y) (kx:jh Y) (b5:List V),ew cj co bW ce cg cw bV ch bP bU L kr kx (n+1) most (l.map txr) (l.length:Int) (i:Int) p b5 zb6 [] (j6 ht hh (cs.map dK)) (us.map dK) =
     if e=0 then cg Y L (txr l[i]) (out.map dK) ht (λv21 v22=>if v22=0 then e9 cj co bW ce cg cw bV ch bP bU L (λp12 p15 p17 p46 p47 p48 b3 b5 b6 b7_0 b10 b11_0 b14=>gL cj co bW ce cg cw bV ch bP bU L p12 p15 p17 p46 p47 p48 b3 b5 b6 b7_0 b10 b11_0 b14 kr (λp12 p46 p47 p48 b3 b5 b6 b7_0 b10 b11_0=>ew cj co bW ce cg cw bV ch bP bU L kr kx n p12 p46 p47 p48 b3 b5 b6 b7_0 b10 b11_0)) L most (out.map dK) v21 (l.map txr) (l.length:Int) (i:Int) (out.map dK) (((out.map dK).length:Nat):Int) 0 p b5 zb6 [] (j6 ht hh (cs.map dK)) (us.map dK) (txr l[i]) else kr v22 zlr zur) else kr e zlr zur:=by
    intro L hL n Y kr kx b5;rw [ew,iR,kq,du (by omega),fe (fo hil),bT ⟨rfl,by omega⟩,zd5,cH,du (by omega),bT (by omega),Bm hhl,bT (by rw [Ru]; omega),D2,JB,WQ,WbR (by omega),hpd,h1 L (by omega),iM];by_cases he0:e=0
    ·rw [if_pos he0,if_pos he0,bT (by rw [Ru]; omega),D2];refine congrArg _ (funext λv21=>funext λv22=>?_);rw [iM];by_cases hv:v22=0
     ·rw [if_pos hv,if_pos hv]
     ·rw [if_neg hv,if_neg hv,bT ⟨rfl,by decide⟩,G8,Hs _ G9,cH,cH]; rfl
    ·rw [if_neg he0,if_neg he0,bT ⟨rfl,by decide⟩,G8,Hs _ G9,cH,cH]; rfl
   rcases hout with ⟨he0,rfl⟩ | ⟨rfl,c,hcm,rfl⟩
   ·refine .inl ⟨e,he,3000000,λL hL n hn Y kr kx b5=>?_⟩;obtain ⟨n,rfl⟩:∃ k,n=k+1:=⟨n-1,by omega⟩;rw [kH L hL,if_neg he0]
   ·obtain ⟨f,e2,_,he2,L2,h2⟩:=Xz (n:=ht) ht1 (hc c hcm) hr;by_cases hz:e2=0
    ·obtain ⟨cs1,hc1,hn1,h3⟩:=zcE hc (by omega) hcm;obtain ⟨cs2,e3,hc2,hn2,he3,L3,h4⟩:=XH (n:=ht) ht1 hc1 hr (j:=i) hi3 (by omega);have stepB:∀ (L:Nat),3000000+L2+L3<=L->∀ (n:Nat) (Y:Type) (kr:Int->List V->List V->Option Y) (kx:jh Y) (b5:List V),ew cj co bW ce cg cw bV ch bP bU L kr kx (n+1) most (l.map txr) (l.length:Int) (i:Int) p b5 zb6 [] (j6 ht hh (cs.map dK)) (us.map dK) =
       if e3=0 then ew cj co bW ce cg cw bV ch bP bU L kr kx n (Wbf .i64 (most+f)) (l.map txr) (l.length:Int) ((i+1:Nat):Int) p b5 zb6 [] (j6 ht hh (cs2.map dK)) ((us++[c]).map dK) else kr e3 zlr zur:=by
      intro L hL n Y kr kx b5;rw [kH L (by omega),if_pos rfl];show cg Y L (txr l[i]) [dK c] ht _=_;rw [h2 L (by omega),if_pos hz];refine (h3 L (by omega) Y _ most [dK c] f (l.map txr) (l.length:Int) (i:Int) p b5 zb6 [] ht hh (us.map dK) (txr l[i]) hhl).trans ?_;rw [gL,cH,bT (by simp only [WcO,WcZ,WcT,cy]; omega),cH,Bm hhl,bT (by rw [Ru]; omega),D2,JB,WQ,h4 L (by omega),iM];by_cases he0:e3=0
      ·rw [if_pos he0,if_pos he0,bT (by rw [kY hhl]; omega),OI hhl,cH,cH,up (by omega),WcY]; rfl
      ·rw [if_neg he0,if_neg he0,bT ⟨rfl,by decide⟩,G8,Hs _ G9,cH,cH]; rfl
     by_cases he0:e3=0
     ·rcases J9 hp hpl hpd hl hll hr hhl m (i+1) (by omega) (Wbf .i64 (most+f)) cs2 (us++[c]) hc2 hn2 (λx hx=>(Wbt.1 hx).elim (hu x) λh=>(WcF.1 h) ▸ hc c hcm) (by simp; omega) with ⟨e4,g1,L4,g2⟩ | ⟨m2,cs3,us3,g1,g2,g3,g4,L4,g5⟩
      ·refine .inl ⟨e4,g1,3000000+L2+L3+L4,λL hL n hn Y kr kx b5=>?_⟩;obtain ⟨n,rfl⟩:∃ k,n=k+1:=⟨n-1,by omega⟩;rw [stepB L (by omega),if_pos he0,g2 L (by omega) n (by omega)]
      ·refine .inr ⟨m2,cs3,us3,g1,g2,g3,g4,3000000+L2+L3+L4,λL hL n hn Y kr kx b5=>?_⟩;obtain ⟨n,rfl⟩:∃ k,n=k+1:=⟨n-1,by omega⟩;rw [stepB L (by omega),if_pos he0,g5 L (by omega) n (by omega)]
     ·refine .inl ⟨e3,he3,3000000+L2+L3,λL hL n hn Y kr kx b5=>?_⟩;obtain ⟨n,rfl⟩:∃ k,n=k+1:=⟨n-1,by omega⟩;rw [stepB L hL,if_neg he0]
    ·refine .inl ⟨e2,he2,3000000+L2,λL hL n hn Y kr kx b5=>?_⟩;obtain ⟨n,rfl⟩:∃ k,n=k+1:=⟨n-1,by omega⟩;rw [kH L (by omega),if_pos rfl];show cg Y L (txr l[i]) [dK c] ht _=_;rw [h2 L (by omega),if_neg hz]
end
end
section
variable {b:List V}{x:Int}{h:List Int}
variable {Y:Type}
theorem VV(h:∀ N W,GL N W tN b):∃ (hd:List V) (l:List TxS),b=hd++[V.sl 4 (l.map txr)]/\hd.length=68/\(∀ N W,GL N W CW hd)/\(∀ t∈l,TxSOk t)/\1<=l.length/\l.length<=4:=by
 have h':∀ N W,GL N W (CW++[.ai 0 4 1 4 aTx]) b:=h;obtain ⟨hd,s,rfl,h1,h2⟩:=Hd (h' 0 (λ_=>0));have hdl:hd.length=68:=h1.1.symm;obtain ⟨v,r,rfl,g,h3⟩:=hY h2;obtain rfl:=sZ h3;have hs:∀ N W,GL N W CW hd/\G N W (.ai 0 4 1 4 aTx) v:=by
  intro N W;obtain ⟨hd',s',e,q1,q2⟩:=Hd (h' N W);obtain ⟨rfl,rfl⟩:=List.append_inj e (by rw [hdl,<- q1.1]; rfl);obtain ⟨v',r',e',q3,_⟩:=hY q2;cases e';exact ⟨q1,q3⟩
 obtain ⟨es,rfl,e1,e2,e3⟩:=Jv (by omega) λN W=>(hs N W).2;have:∃ l:List TxS,es=l.map txr/\∀ t∈l,TxSOk t:=by
  clear h h' h1 h2 h3 g hs e1 e2
  induction es with
  | nil=>exact ⟨[],rfl,by simp⟩
  | cons e es ih=>
   obtain ⟨t,rfl,ht⟩:=zg6 (e3 _ (Wcy ..));obtain ⟨l,rfl,hl⟩:=ih λr hr=>e3 r (WcB _ hr);exact ⟨t::l,rfl,λx hx=>(WbL.1 hx).elim (λe=>e ▸ ht) (hl x)⟩
 obtain ⟨l,rfl,hl⟩:=this;rw [WcO] at e1 e2;exact ⟨hd,l,rfl,hdl,λN W=>(hs N W).1,hl,by omega,by omega⟩
theorem zbl(h:∀ N W,GL N W sX b):∃ (ht:Int) (hh:List Int) (cs:List CoT),b=j6 ht hh (cs.map dK)/\(-9223372036854775808<=ht/\ht<=9223372036854775807)/\hh.length=32/\dG hh/\(∀ c∈cs,CoOk c)/\cs.length<=100000:=by
 have h':∀ N W,GL N W (oR::(vY++[qY 100000])) b:=h;obtain ⟨v,r,rfl,g,h1⟩:=hY (h' 0 (λ_=>0));obtain ⟨ht,rfl,hr⟩:=qw g;obtain ⟨a,s,rfl,h2,h3⟩:=Hd h1;obtain ⟨hh,rfl,hl,hb⟩:=KU h2;obtain ⟨w,s,rfl,g2,h4⟩:=hY h3;obtain rfl:=sZ h4;have hs:∀ N W,G N W (qY 100000) w:=by
  intro N W;refine (h' N W).2 33 _ _ rfl ?_;rw [show 33=32+1 from rfl,Wbq,Wal (by rw [fW]; omega),fW,hl]; rfl
 obtain ⟨es,rfl,_,e2,e3⟩:=Jv (by omega) hs;obtain ⟨cs,rfl,hc⟩:=OA e3;rw [WcO] at e2;exact ⟨ht,hh,cs,rfl,hr,hl,hb,hc,by omega⟩
theorem zbE{cs:Ls}(hl:h.length=32):cD (cD ([(QQe x)]++Wad 32 (QQa (0:Int))++[(V.sl 37 ([]:Ls))]) 1 (row .u8 h)) 33 [(V.sl 37 cs)]=j6 x h cs:=by
 match h,hl with
 | [x0,x1,x2,x3,x4,x5,x6,x7,x8,x9,x10,x11,x12,x13,x14,x15,x16,x17,x18,x19,x20,x21,x22,x23,x24,x25,x26,x27,x28,x29,x30,x31],_=>rfl
theorem zf3(hl:h.length=32):(cD ([(QQe x)]++Wad 32 (QQa (0:Int))++[(V.sl 37 ([]:Ls))]) 1 (row .u8 h)).length=34:=by
 match h,hl with
 | [x0,x1,x2,x3,x4,x5,x6,x7,x8,x9,x10,x11,x12,x13,x14,x15,x16,x17,x18,x19,x20,x21,x22,x23,x24,x25,x26,x27,x28,x29,x30,x31],_=>rfl
theorem zc6{l:List TxS}(hl:∀ t∈l,TxSOk t)(h0:0<l.length){hd:List V}(hdl:hd.length=68){ht:Int}(hr:-9223372036854775808<=ht/\ht<=9223372036854775807){hh:List Int}(hhl:hh.length=32){cs us:List CoT}(hc:∀ c∈cs,CoOk c)(hn:cs.length<=100008)(most:Int) :
  ∃ (r1 r2:List V) (e:Int),((r1=zlr/\r2=zur)∨(r1=j6 ht hh (cs.map dK)/\cs.length<=100000/\r2=[V.sl 37 (us.map dK)]))/\(0<=e/\e<=999)/\Fin2 λL=>∀ (Y:Type) (k:List V->List V->Int->Option Y),
   iN cj co bW ce cg cw bV ch bP bU L most (hd++[V.sl 4 (l.map txr)]) zb6 [] (j6 ht hh (cs.map dK)) (us.map dK) k=k r1 r2 e:=by
 obtain ⟨outs,ho,hol,L1,h1⟩:=XC (hl _ (WaV h0)) hr;obtain ⟨n1,L2,h2⟩:=Un ho (by omega);obtain ⟨n2,L3,h3⟩:=Un hc hn;have hb:(hd++[V.sl 4 (l.map txr)])[68]?=some (V.sl 4 (l.map txr)):=by
  rw [Wal (by omega),hdl]; rfl
 have hz:(l.map txr)[(0:Int).toNat]?=some (txr l[0]):=fo h0;have key:∀ (L:Nat),L1+L2+L3<=L->∀ (Y:Type) (k:List V->List V->Int->Option Y),iN cj co bW ce cg cw bV ch bP bU L most (hd++[V.sl 4 (l.map txr)]) zb6 [] (j6 ht hh (cs.map dK)) (us.map dK) k =
   ifb (decide (n1>most)) (k zlr zur 231) (ifb (decide (n2>2100000000000000)) (k zlr zur 90) (ifb (decide (((cs.map dK).length:Int)>100000)) (k zlr zur 4) (k (j6 ht hh (cs.map dK)) [V.sl 37 (us.map dK)] 0))):=by
  intro L hL Y k;have z1:∀ (e:Int),chk (34=34/\0+34<=(WcJ zb6)) (lt (cD zb6 0 ([(QQe (0:Int))]++Wad 32 (QQa (0:Int))++[(V.sl 37 ([]:Ls))])) λr38=>lt [(V.sl 37 ([]:Ls))] λr39=>chk (0=0/\(WcJ r38)=34/\34≠0) (chk (0=0/\(WcJ r39)=1/\1≠0) (k r38 r39 e)))=k zlr zur e:=by
   intro e;rw [bT ⟨rfl,by decide⟩,G8,Hs _ G9,cH,cH,bT ⟨rfl,rfl,by decide⟩,bT ⟨rfl,rfl,by decide⟩]; rfl
  rw [iN,j3 hb,wx (by decide) hz,D2,JB,WQ,h1 L (by omega),h2 L (by omega),z1,Bm hhl,h3 L (by omega),z1,Bm hhl,z1,
   bT (by rw [kY hhl]; omega),WbR (by rw [kY hhl]; omega),bT ⟨kY hhl,by decide⟩,Hs _ (kY hhl),cH,cH,bT ⟨rfl,kY hhl,by decide⟩,bT ⟨rfl,rfl,by decide⟩]
 by_cases q1:n1>most
 ·exact ⟨zlr,zur,231,.inl ⟨rfl,rfl⟩,by omega,L1+L2+L3,λL hL Y k=>by rw [key L hL,du q1]⟩
 by_cases q2:n2>2100000000000000
 ·exact ⟨zlr,zur,90,.inl ⟨rfl,rfl⟩,by omega,L1+L2+L3,λL hL Y k=>by rw [key L hL,dt q1,du q2]⟩
 by_cases q3:((cs.map dK).length:Int)>100000
 ·exact ⟨zlr,zur,4,.inl ⟨rfl,rfl⟩,by omega,L1+L2+L3,λL hL Y k=>by rw [key L hL,dt q1,dt q2,du q3]⟩
 ·exact ⟨_,_,0,.inr ⟨rfl,by rw [WcO] at q3; omega,rfl⟩,by omega,L1+L2+L3,λL hL Y k=>by rw [key L hL,dt q1,dt q2,dt q3]⟩
theorem zdE{p l:List V}(hp:∀ N W,GL N W s8 p)(hl:∀ N W,GL N W sX l)(hb:∀ N W,GL N W tN b) :
  ∃ (r1 r2:List V) (e:Int),(∀ N W,G N W pF (.agg r1))/\(∀ N W,G N W PG (.agg r2))/\(0<=e/\e<=999)/\Fin2 λL=>∀ (Y:Type) (k:List V->List V->Int->Option Y),ka Y L p l b k=k r1 r2 e:=by
 have hpl:p.length=80:=(hp 0 (λ_=>0)).1.symm;have hpd:p.map V.ag=p:=Hl (by rfl) (hp 0 (λ_=>0));have hbd:b.map V.ag=b:=Hl (by rfl) (hb 0 (λ_=>0));have hbl:b.length=69:=(hb 0 (λ_=>0)).1.symm;obtain ⟨mat,hm⟩:∃ mat,p[79]?=some (QQe mat):=by
  have h79:p[79]?=some p[79]:=List.getElem?_eq_getElem (by omega);obtain ⟨n,e,_⟩:=qw ((hp 0 (λ_=>0)).2 79 (.iv .i64 0 2) _ rfl h79);exact ⟨n,by rw [h79,e]⟩
 have hA:∀ N W,G N W mK (.agg p):=λN W=>.agg _ _ (hp N W).1 (hp N W).2;obtain ⟨e0,he0,L0,h0⟩:=zag hA (λN W=>.agg _ _ (hl N W).1 (hl N W).2) (λN W=>.agg _ _ (hb N W).1 (hb N W).2);obtain ⟨ht0,hh0,cs,rfl,hr0,hl0,hb0,hc,hn⟩:=zbl hl;obtain ⟨hd,tl,rfl,hdl,hhd,ht,hx1,hx4⟩:=VV hb;have hzl:∀ N W,G N W pF (.agg zlr):=λN W=>WC (cs:=[]) (by omega) (by simp) (by intro x hx; rw [Wdb hx]; omega) (by simp) (by simp);have hzu:∀ N W,G N W PG (.agg zur):=λN W=>zbV (cs:=[]) (by simp) (by simp);by_cases hz:e0=0;rotate_left
 ·refine ⟨zlr,zur,e0,hzl,hzu,he0,L0,λL hL Y k=>?_⟩;simp only [ka,oA,sM];rw [bT (by omega),bT (by rw [kY hl0]; omega),bT (by omega),WbR (by omega),hpd,WbR (by rw [kY hl0]; omega),WF,WbR (by omega),hbd,h0 L hL,iM,if_neg hz,cH,cH,G8,bT ⟨trivial,rfl,by decide⟩,bT ⟨trivial,rfl,by decide⟩]; rfl
 ·have hr:=Ho .i64 (ht0+1);have hr:-9223372036854775808<=Wbf .i64 (ht0+1)/\Wbf .i64 (ht0+1)<=9223372036854775807:=hr;obtain ⟨hh,hhl,hhb,L1,h1⟩:=zcQ (λN W=>.agg _ _ (hhd N W).1 (hhd N W).2);obtain ⟨most,L2,h2⟩:=Xr hA hr;have hb4:(hd++[V.sl 4 (tl.map txr)])[68]?=some (V.sl 4 (tl.map txr)):=by
   rw [Wal (by omega),hdl]; rfl
  have key:∀ (L:Nat),L0+L1+L2<=L->∀ (Y:Type) (k:List V->List V->Int->Option Y),ka Y L p (j6 ht0 hh0 (cs.map dK)) (hd++[V.sl 4 (tl.map txr)]) k =
    ew cj co bW ce cg cw bV ch bP bU L (λp8 b6 b7=>kR cj co bW ce cg cw bV ch bP bU L p8 b6 b7 k) (λp12 b5 b6 b7_0 b10 b11_0=>iN cj co bW ce cg cw bV ch bP bU L p12 b5 b6 b7_0 b10 b11_0 k) L most (tl.map txr) (tl.length:Int) ((0:Nat):Int) p (hd++[V.sl 4 (tl.map txr)]) zb6 [] (j6 (Wbf .i64 (ht0+1)) hh (cs.map dK)) (([]:List CoT).map dK):=by
   intro L hL Y k;simp only [ka,oA,sM];rw [bT (by omega),bT (by rw [kY hl0]; omega),bT (by omega),WbR (by omega),hpd,WbR (by rw [kY hl0]; omega),WF,WbR (by omega),hbd,h0 L (by omega),iM,if_pos hz,D2,cH,bT (by omega),List.take_left' hdl,h1 L (by omega),Bm hl0,
    bT ⟨by rw [fW,hhl],by omega⟩,bT ⟨trivial,by rw [zf3 hhl]; omega⟩,zbE hhl,cH,bT ⟨kY hhl,by omega⟩]
   rw [show ([(QQe (0:Int))]++Wad 32 (QQa (0:Int))++[(V.gs 37 ([]:Ls))])=zb6 from rfl,Hs _ (kY hhl),cH,D2,h2 L (by omega),j3 hb4,WcO,bT (by omega)];rfl
  rcases J9 hm hpl hpd ht hx4 hr hhl tl.length 0 (by omega) most cs [] hc (by omega) (by simp) (by simp) with ⟨e,g1,L3,g2⟩ | ⟨m2,cs2,us2,g1,g2,g3,g4,L3,g5⟩
  ·refine ⟨zlr,zur,e,hzl,hzu,g1,L0+L1+L2+L3+10,λL hL Y k=>?_⟩;rw [key L (by omega),g2 L (by omega) L (by omega),kR,bT ⟨rfl,rfl,by decide⟩,bT ⟨rfl,rfl,by decide⟩]
  ·obtain ⟨r1,r2,e,q1,q2,L4,q3⟩:=zc6 (us:=us2) ht hx1 hdl hr hhl g1 g2 m2;refine ⟨r1,r2,e,?_,?_,q2,L0+L1+L2+L3+L4+10,λL hL Y k=>?_⟩
   ·rcases q1 with ⟨rfl,rfl⟩ | ⟨rfl,q,rfl⟩
    ·exact hzl
    ·exact λN W=>WC hr hhl hhb g1 q
   ·rcases q1 with ⟨rfl,rfl⟩ | ⟨rfl,q,rfl⟩
    ·exact hzu
    ·exact λN W=>zbV g3 g4
   ·rw [key L (by omega),g5 L (by omega) L (by omega),q3 L (by omega)]
theorem Vy:ed (cN rows) 310 TM:=by
 refine Yz (D':=301) (by decide) (λL=>MH L) (λws hw=>?_);obtain ⟨v1,r,rfl,a1,h0⟩:=hY (hw 0 (λ_=>0));obtain ⟨v2,r,rfl,a2,h0⟩:=hY h0;obtain ⟨v3,r,rfl,a3,h0⟩:=hY h0;obtain rfl:=sZ h0;obtain ⟨p,rfl,_⟩:=CL a1;obtain ⟨l,rfl,_⟩:=CL a2;obtain ⟨b,rfl,_⟩:=CL a3;have hp:∀ N W,GL N W s8 p:=λN W=>by obtain ⟨_,e,h⟩:=CL ((hw N W).2 0 _ _ rfl rfl); cases e; exact h
 have hl:∀ N W,GL N W sX l:=λN W=>by obtain ⟨_,e,h⟩:=CL ((hw N W).2 1 _ _ rfl rfl); cases e; exact h
 have hb:∀ N W,GL N W tN b:=λN W=>by obtain ⟨_,e,h⟩:=CL ((hw N W).2 2 _ _ rfl rfl); cases e; exact h
 obtain ⟨r1,r2,e,q1,q2,q3,L0,q⟩:=zdE hp hl hb;refine ⟨.ah [.agg r1,.agg r2,.sc (.int .i64 e)],λN W=>?_,L0,λL hL=>q L hL (V × Bor) λp0 p1 p2=>some (V.ah [.agg p0,.agg p1,.sc (.int .i64 p2)],[])⟩;have:GL N W [pF,PG,tv] [.agg r1,.agg r2,.sc (.int .i64 e)]:=.cons (q1 N W) (.cons (q2 N W) (gl1 (.iv .i64 _ _ e q3)));exact .ah _ _ this.1 this.2
end
section
variable {l:List OwT}{v:OwT}
variable {Y:Type}
theorem HI{v:OwT}(hv:v.h.length=32){due:List (List Int)}(hd:∀ b∈due,dG b)(hdn:due.length<=10000000)(x:Int):∀ (m i:Nat) (l:List OwT),(∀ w∈l,OwOk w)->l.length<=1000000->l.length-i=m->∃ l':List OwT,(∀ w∈l',OwOk w)/\l'.length=l.length/\∀ (L n:Nat),20000000<=L->m<n->∀ (Y:Type) (kx:Nat->List V->Option Y),
  eI bM L kx n (dU due) x l.length (i:Int) (gG v) (l.map dC).flatten=kx l'.length (l'.map dC).flatten
 | 0,i,l,hl,hn,hi=>⟨l,hl,rfl,λL n hL hn Y kx=>by
  obtain ⟨n,rfl⟩:∃ k,n=k+1:=⟨n-1,by omega⟩;rw [eI,og,dt (by omega)]⟩
 | m+1,i,l,hl,hn,hi=>by
  have h:i<l.length:=by omega
  have hw:=hl _ (WaV h);have hll:∀ w∈l,w.h.length=32:=λw hw=>(hl w hw).hl;have h2:(0:Int)<=(i:Int)/\(i:Int)<((l.length:Nat):Int):=by omega
  have a37:(l.map dC).flatten[(0+(WcL (i:Int))*38)+37]?=some (QQe l[i].sp):=by
   rw [show ((0+(WcL (i:Int))*38)+37)=i*38+(33+4) by simp,zai hll h (by omega)]; rfl
  have a34:(l.map dC).flatten[(((0+(WcL (i:Int))*38)+0)+33)+1]?=some (V.sl 1 (eB .u8 l[i].aA)):=by
   rw [show ((((0+(WcL (i:Int))*38)+0)+33)+1)=i*38+(33+1) by simp,zai hll h (by omega)]; rfl
  have a33:WcK 33 (WcM (((0+((WcL (i:Int))*38))+0)+0) (l.map dC).flatten)=gG l[i]:=by
   rw [show (((0+((WcL (i:Int))*38))+0)+0)=i*38 by simp,zbg (Df hll) (by omega) (fo h),pZ hw.hl]
  obtain ⟨l1,g1,g2,g3⟩:=HI hv hd hdn x m (i+1) l hl hn (by omega);obtain ⟨l2,k1,k2,k3⟩:=HI hv hd hdn x m (i+1) (l.set i (spd l[i] x)) (zcs hl h x) (by simpa using hn) (by simp; omega);have step:∀ (L n:Nat),20000000<=L->∀ (Y:Type) (kx:Nat->List V->Option Y),eI bM L kx (n+1) (dU due) x l.length (i:Int) (gG v) (l.map dC).flatten =
    ifb (EH l[i] v) (ifb (l[i].sp==0) (ifb (((due.length:Nat):Int)==0) (eI bM L kx n (dU due) x l.length ((i+1:Nat):Int) (gG v) ((l.set i (spd l[i] x)).map dC).flatten) (ifb (jN due l[i].aA) (eI bM L kx n (dU due) x l.length ((i+1:Nat):Int) (gG v) ((l.set i (spd l[i] x)).map dC).flatten) (eI bM L kx n (dU due) x l.length ((i+1:Nat):Int) (gG v) (l.map dC).flatten))) (eI bM L kx n (dU due) x l.length ((i+1:Nat):Int) (gG v) (l.map dC).flatten)) (eI bM L kx n (dU due) x l.length ((i+1:Nat):Int) (gG v) (l.map dC).flatten):=by
   intro L n hL Y kx;rw [eI,og,du h2.2,bT h2,bT (by rw [Wu hll]; simp; omega),bT (by rw [iX hv]; omega),a33,WbR (by rw [iX hv]; omega),NI hw.hl hv,bT h2,eQ a37,wT,bT h2,bT ⟨rfl,by rw [Wu hll]; simp; omega⟩,zfV hll h,j3 a34,Xa hL hdn hd hw.s];simp only [cH,up (show i<=1000000000 by omega)];rw [bT h2]
  have no:(∀ (L n:Nat),20000000<=L->∀ (Y:Type) (kx:Nat->List V->Option Y),eI bM L kx (n+1) (dU due) x l.length (i:Int) (gG v) (l.map dC).flatten=eI bM L kx n (dU due) x l.length ((i+1:Nat):Int) (gG v) (l.map dC).flatten)->∃ l':List OwT,(∀ w∈l',OwOk w)/\l'.length=l.length/\∀ (L n:Nat),20000000<=L->m+1<n->∀ (Y:Type) (kx:Nat->List V->Option Y),eI bM L kx n (dU due) x l.length (i:Int) (gG v) (l.map dC).flatten=kx l'.length (l'.map dC).flatten:=by
   intro q;refine ⟨l1,g1,g2,λL n hL hn Y kx=>?_⟩;obtain ⟨n,rfl⟩:∃ k,n=k+1:=⟨n-1,by omega⟩;rw [q L n hL,g3 L n hL (by omega)]
  have yes:(∀ (L n:Nat),20000000<=L->∀ (Y:Type) (kx:Nat->List V->Option Y),eI bM L kx (n+1) (dU due) x l.length (i:Int) (gG v) (l.map dC).flatten=eI bM L kx n (dU due) x l.length ((i+1:Nat):Int) (gG v) ((l.set i (spd l[i] x)).map dC).flatten)->∃ l':List OwT,(∀ w∈l',OwOk w)/\l'.length=l.length/\∀ (L n:Nat),20000000<=L->m+1<n->∀ (Y:Type) (kx:Nat->List V->Option Y),eI bM L kx n (dU due) x l.length (i:Int) (gG v) (l.map dC).flatten=kx l'.length (l'.map dC).flatten:=by
   intro q;refine ⟨l2,k1,by simpa using k2,λL n hL hn Y kx=>?_⟩;obtain ⟨n,rfl⟩:∃ k,n=k+1:=⟨n-1,by omega⟩;have:=k3 L n hL (by omega) Y kx;rw [Wdc] at this;rw [q L n hL,this]
  cases hs:EH l[i] v with
  | false=>exact no λL n hL Y kx=>by rw [step L n hL,hs]; rfl
  | true=>
   by_cases c1:l[i].sp=0
   ·by_cases c2:((due.length:Nat):Int)=0
    ·exact yes λL n hL Y kx=>by rw [step L n hL,hs,gY,fd c1,fd c2]
    ·cases hh:jN due l[i].aA with
     | true=>exact yes λL n hL Y kx=>by rw [step L n hL,hs,gY,fd c1,eA c2,hh]; rfl
     | false=>exact no λL n hL Y kx=>by rw [step L n hL,hs,gY,fd c1,eA c2,hh]; rfl
   ·exact no λL n hL Y kx=>by rw [step L n hL,hs,gY,eA c1]
theorem zdG(hl:∀ w∈l,OwOk w)(hn:l.length<=1000000)(hv:v.h.length=32){due:List (List Int)}(hd:∀ b∈due,dG b)(hdn:due.length<=10000000)(x:Int):∃ l':List OwT,(∀ w∈l',OwOk w)/\l'.length=l.length/\∀ (L:Nat),20000000<=L->∀ (Y:Type) (k:Ls->Option Y),
  bS Y L (l.map dC) (gG v) (dU due) x k=k (l'.map dC):=by
 obtain ⟨l',g1,g2,g3⟩:=HI hv hd hdn x _ 0 l hl hn rfl;refine ⟨l',g1,g2,λL hL Y k=>?_⟩;have hll:∀ w∈l',w.h.length=32:=λw hw=>(g1 w hw).hl;simp only [bS,vS,B5,WcO];rw [bT (by simp only [cy]; omega)];refine (g3 L L hL (by omega) Y _).trans ?_;rw [qE,bT (by rw [Wu hll]; by_cases h:l'.length=0 <;> simp [h]),Ss hll]
theorem TS{l:List OwT}(hl:∀ w∈l,OwOk w)(hn:l.length<=1000000){v:OwT}(hv:v.h.length=32):∀ (m i:Nat),l.length-i=m->i<=l.length->∃ j:Nat,j<=l.length/\∀ (L n:Nat),40<=L->m<n->∀ (Y:Type) (kx:Ls->Int->List V->Option Y),
  ke bQ L kx n (l.map dC) (i:Int) (dC v)=kx (l.map dC) (j:Int) (dC v)
 | 0,i,hi,hil=>⟨i,hil,λL n hL hn Y kx=>by
  obtain ⟨n,rfl⟩:∃ k,n=k+1:=⟨n-1,by omega⟩;rw [ke,sD,WcO,dt (by omega)]⟩
 | m+1,i,hi,hil=>by
  have h:i<l.length:=by omega
  have hw:=hl _ (WaV h);obtain ⟨b,hb⟩:=zaN hw.hl hv;have step:∀ (L n:Nat),40<=L->∀ (Y:Type) (kx:Ls->Int->List V->Option Y),ke bQ L kx (n+1) (l.map dC) (i:Int) (dC v)=ifb b (ke bQ L kx n (l.map dC) ((i+1:Nat):Int) (dC v)) (kx (l.map dC) (i:Int) (dC v)):=by
   intro L n hL Y kx;rw [ke,sD,WcO,du (by omega),fe (fo h),bT (by rw [fM hv]; omega),kJ hw.hl,kJ hv,zU,zU,hb L hL,cH,up (by omega)]
  cases b with
  | false=>
   refine ⟨i,hil,λL n hL hn Y kx=>?_⟩;obtain ⟨n,rfl⟩:∃ k,n=k+1:=⟨n-1,by omega⟩;rw [step L n hL]; rfl
  | true=>
   obtain ⟨j,q1,q2⟩:=TS hl hn hv m (i+1) (by omega) (by omega);refine ⟨j,q1,λL n hL hn Y kx=>?_⟩;obtain ⟨n,rfl⟩:∃ k,n=k+1:=⟨n-1,by omega⟩;rw [step L n hL,gY,q2 L n hL (by omega)]
theorem TO{l:List OwT}(hl:∀ w∈l,OwOk w)(hn:l.length<=1000000){v:OwT}(hv:v.h.length=32)(p:Int):∀ (m i:Nat),l.length-i=m->∃ b:Bool,∀ (L n:Nat),m<n->∀ (Y:Type) (kr:Ls->Int->Option Y) (kx:Ls->Int->List V->Option Y),
  lE bQ L kr kx n (l.map dC) p (i:Int) (dC v)=ifb b (kr [] 91) (kx (l.map dC) p (dC v))
 | 0,i,hi=>⟨false,λL n hn Y kr kx=>by
  obtain ⟨n,rfl⟩:∃ k,n=k+1:=⟨n-1,by omega⟩;rw [lE,pn,WcO,dt (by omega)]; rfl⟩
 | m+1,i,hi=>by
  have h:i<l.length:=by omega
  have hw:=hl _ (WaV h);have h37:(WcM 37 (dC l[i]))[0]?=some (QQe l[i].sp):=by rw [List.getElem?_drop]; exact kg hw.hl 4
  obtain ⟨b,hb⟩:=TO hl hn hv p m (i+1) (by omega);refine ⟨cond (EH l[i] v) (cond (l[i].sp==0) true b) b,λL n hn Y kr kx=>?_⟩;obtain ⟨n,rfl⟩:∃ k,n=k+1:=⟨n-1,by omega⟩;have:=hb L n (by omega) Y kr kx;rw [lE,pn,WcO,du (by omega),fe (fo h),bT (by rw [fM hv]; omega),pZ hw.hl,pZ hv,NI hw.hl hv,fe (fo h),eQ h37,cH,up (by omega),this];cases EH l[i] v <;> cases (l[i].sp==0) <;> rfl
theorem zgU(hl:∀ w∈l,OwOk w)(hn:l.length<=100000)(hv:OwOk v):∃ (l':List OwT) (e:Int),(∀ w∈l',OwOk w)/\l'.length<=l.length+1/\∀ (L:Nat),2000000<=L->∀ (Y:Type) (k:Ls->Int->Option Y),
  bY Y L (l.map dC) (dC v) k=k (l'.map dC) e:=by
 obtain ⟨j,h1,h2⟩:=TS hl (by omega) hv.hl _ 0 rfl (by omega);obtain ⟨b,h3⟩:=TO hl (by omega) hv.hl (j:Int) _ 0 rfl;have e:∀ (L:Nat),2000000<=L->∀ (Y:Type) (k:Ls->Int->Option Y),bY Y L (l.map dC) (dC v) k=ifb b (k [] 91) (k ((l.take j++v::l.drop j).map dC) 0):=by
  intro L hL Y k;simp only [bY,Ay,Gg];refine (h2 L L (by omega) (by omega) Y _).trans ?_;simp only [oB,uX];refine (h3 L L (by omega) Y _ _).trans ?_;have hj:0<=(j:Int)/\(j:Int)<=(((List.map dC l).length:Nat):Int):=by simp; omega
  have e2:WcK (WcJ (l.map dC)-j) (WcM j (l.map dC))=WcM j (l.map dC):=WbR (by simp);simp only [qk,rS,Int.toNat_natCast,Nat.sub_zero,WcP,WcQ,cH];rw [bT hj,bT (by simp [cy]; omega),bT (by rw [fM hv.hl]; omega),kJ hv.hl,bT ⟨fM hv.hl,by omega⟩,VC hv.hl,YY hv.hl,bT (by simp [cy]; omega),e2,bT (by simp [cy]; omega),bT (by simp [cy]; omega),show ((l.take j++v::l.drop j).map dC)=WcK j (l.map dC)++[dC v]++WcM j (l.map dC) by simp [List.map_take,List.map_drop]]
 cases b with
 | true=>exact ⟨[],91,by simp,by simp,λL hL Y k=>(e L hL Y k).trans rfl⟩
 | false=>
  refine ⟨l.take j++v::l.drop j,0,λw hw=>?_,by simp; omega,λL hL Y k=>(e L hL Y k).trans rfl⟩;rcases Wbt.1 hw with h | h
  ·exact hl w (WaI h)
  ·rcases WbL.1 h with rfl | h
   ·exact hv
   ·exact hl w (WaP h)
end
section
variable {v:V}{t:TxS}{h:List Int}
variable {Y:Type}
def BE(o:Int × List Int):List V:=[V.sc (.int .i64 o.1),V.sl 1 (eB .u8 o.2)]
theorem zfO{a:A}(ha:a=.int .u8 ⟨1,[]⟩∨a=.int .u8 ⟨5,[]⟩∨a=.iv .u8 1 6)(h:G 0 (λ_=>0) a v):∃ n:Int,v=.sc (.int .u8 n)/\0<=n/\n<=255:=by
 rcases ha with rfl | rfl | rfl
 ·generalize hc:A.int .u8 ⟨1,[]⟩=c at h;cases h <;> first | (cases hc; done) | skip
  cases hc;exact ⟨_,rfl,by decide,by decide⟩
 ·generalize hc:A.int .u8 ⟨5,[]⟩=c at h;cases h <;> first | (cases hc; done) | skip
  cases hc;exact ⟨_,rfl,by decide,by decide⟩
 ·obtain ⟨n,rfl,h1,h2⟩:=qw h;exact ⟨n,rfl,by omega,by omega⟩
theorem zcc(h:G 0 (λ_=>0) Hh v):∃ l:List Int,v=.sl 1 (eB .u8 l)/\dG l/\l.length=4:=by
 have key:∃ es:Ls,v=.sl 1 es/\es.length=4/\∀ (j:Nat) (row:List A) (r:List V),([[A.int .u8 ⟨1,[]⟩],[.int .u8 ⟨1,[]⟩],[.iv .u8 1 6],[.int .u8 ⟨5,[]⟩]]:List (List A))[j]?=some row->es[j]?=some r->GL 0 (λ_=>0) row r:=by
  generalize hc:Hh=c at h;unfold Hh at hc;cases h <;> first | (cases hc; done) | skip
  rename_i es hl hr hh;cases hc;exact ⟨es,rfl,hl.symm,λj row r a b=>⟨hr j row r a b,hh j row r a b⟩⟩
 obtain ⟨es,rfl,hl,hk⟩:=key
 match es,hl with
 | [r0,r1,r2,r3],_=>
  have one:∀ {a:A} {r:List V},(a=.int .u8 ⟨1,[]⟩∨a=.int .u8 ⟨5,[]⟩∨a=.iv .u8 1 6)->GL 0 (λ_=>0) [a] r->∃ n:Int,r=[.sc (.int .u8 n)]/\0<=n/\n<=255:=by
   intro a r ha h;obtain ⟨v,r,rfl,g,h2⟩:=hY h;obtain rfl:=sZ h2;obtain ⟨n,rfl,hn⟩:=zfO ha g;exact ⟨n,rfl,hn⟩
  obtain ⟨n0,rfl,h0⟩:=one (.inl rfl) (hk 0 _ _ rfl rfl);obtain ⟨n1,rfl,h1⟩:=one (.inl rfl) (hk 1 _ _ rfl rfl);obtain ⟨n2,rfl,h2⟩:=one (.inr (.inr rfl)) (hk 2 _ _ rfl rfl);obtain ⟨n3,rfl,h3⟩:=one (.inr (.inl rfl)) (hk 3 _ _ rfl rfl);refine ⟨[n0,n1,n2,n3],rfl,λx hx=>?_,rfl⟩;simp only [WbL,List.not_mem_nil,or_false] at hx;rcases hx with rfl | rfl | rfl | rfl <;> assumption
structure OsOk (os:List (Int × List Int)):Prop where
 n:os.length<=2
 b:∀ o∈os,dG o.2
 l:∀ o∈os,o.2.length=4
theorem zeG(ht:TxSOk t):∃ os:List (Int × List Int),t.outs=os.map BE/\OsOk os:=by
 have g:=(ht.g 0 (λ_=>0)).2 2 (.ai 0 2 1 2 Ti) (.sl 2 t.outs) rfl rfl;obtain ⟨es,e,e1,e2,e3⟩:=QR g;have:t.outs=es:=by simpa [mkL] using e
 subst this;have key:∀ (es:Ls),(∀ r∈es,GL 0 (λ_=>0) Ti r)->∃ os:List (Int × List Int),es=os.map BE/\(∀ o∈os,dG o.2)/\∀ o∈os,o.2.length=4:=by
  intro es
  induction es with
  | nil=>exact λ_=>⟨[],rfl,by simp,by simp⟩
  | cons r es ih=>
   intro h;obtain ⟨os,rfl,h1,h2⟩:=ih λr hr=>h r (WcB _ hr);obtain ⟨v,s,rfl,q1,q2⟩:=hY (h r (Wcy ..));obtain ⟨u,s,rfl,q3,q4⟩:=hY q2;obtain rfl:=sZ q4;obtain ⟨n,rfl,_⟩:=qw q1;obtain ⟨l,rfl,hb,hl⟩:=zcc q3;refine ⟨(n,l)::os,rfl,λo ho=>?_,λo ho=>?_⟩
   ·rcases WbL.1 ho with rfl | ho
    ·exact hb
    ·exact h1 o ho
   ·rcases WbL.1 ho with rfl | ho
    ·exact hl
    ·exact h2 o ho
 obtain ⟨os,e,h1,h2⟩:=key t.outs e3;exact ⟨os,e,by have:=congrArg WcJ e; rw [WcO] at this; omega,h1,h2⟩
theorem zgz(ht:TxSOk t):∃ l:List Int,l.length=32/\dG l/\Fin2 λL=>∀ (Y:Type) k,ci Y L (txr t) k=k (row .u8 l):=by
 obtain ⟨v,g,L0,h⟩:=vM (cJ (D':=300) (by decide) LC) (ws:=[.agg (txr t)]) (λN W=>gl1 (YR ht N W));obtain ⟨l,rfl,hl,hb⟩:=Yw g;exact ⟨l,hl,hb,L0,λL hL Y k=>(h L hL Y _).trans (ZV _ _)⟩
theorem Xm{b:List V}(hb:∀ N W,GL N W tN b):∃ e,(0<=e/\e<=999)/\Fin2 λL=>∀ (Y:Type) k,f9 Y L b k=k e:=by
 obtain ⟨v,g,L0,h⟩:=vM (cJ (D':=300) (by decide) P8) (ws:=[.agg b]) (λN W=>gl1 (.agg _ _ (hb N W).1 (hb N W).2));obtain ⟨e,rfl,he⟩:=qw (g 0 (λ_=>0));exact ⟨e,he,L0,λL hL Y k=>(h L hL Y _).trans (EX _ _ _)⟩
def Vp(h:List Int)(ix:Int)(o:Int × List Int)(x:Int)(cb:Bool):List V:=row .u8 h++[V.sc (.int .u32 ix),V.sc (.int .i64 o.1),V.sl 1 (eB .u8 o.2),V.sc (.int .i64 x),V.sc (.bool cb)]
theorem zhU(hl:h.length=32)(ix:Int):cD (cD (Wad 32 (QQa (0:Int))++[(QQc (0:Int))]) 0 (row .u8 h)) 32 [(QQc ix)]=row .u8 h++[V.sc (.int .u32 ix)]:=by
 match h,hl with
 | [x0,x1,x2,x3,x4,x5,x6,x7,x8,x9,x10,x11,x12,x13,x14,x15,x16,x17,x18,x19,x20,x21,x22,x23,x24,x25,x26,x27,x28,x29,x30,x31],_=>rfl
def z37:List V:=(Wad 32 (QQa (0:Int))++[(QQc (0:Int)),(QQe (0:Int)),(V.sl 1 ([]:Ls)),(QQe (0:Int)),(V.sc (.bool false))])
theorem zhu(hl:h.length=32)(ix:Int)(o:Int × List Int)(x:Int)(cb:Bool):cD (cD (cD (cD z37 0 (row .u8 h++[V.sc (.int .u32 ix)])) 33 (BE o)) 35 [(QQe x)]) 36 [(V.sc (.bool cb))]=Vp h ix o x cb:=by
 match h,hl with
 | [x0,x1,x2,x3,x4,x5,x6,x7,x8,x9,x10,x11,x12,x13,x14,x15,x16,x17,x18,x19,x20,x21,x22,x23,x24,x25,x26,x27,x28,x29,x30,x31],_=>rfl
theorem Rg(hl:h.length=32)(ix:Int)(o:Int × List Int)(x:Int)(cb:Bool):(Vp h ix o x cb).length=37:=by simp [Vp,fW,hl]
theorem zhm(hl:h.length=32)(ix:Int)(o:Int × List Int)(x:Int)(cb:Bool):cD (Wad 32 (QQa (0:Int))++[(QQc (0:Int)),(QQe (0:Int)),(V.sl 1 ([]:Ls)),(QQe (0:Int)),(V.sc (.bool false)),(QQe (0:Int))]) 0 (Vp h ix o x cb)=dC ⟨h,ix,o.1,o.2,x,cb,0⟩:=by
 match h,hl with
 | [x0,x1,x2,x3,x4,x5,x6,x7,x8,x9,x10,x11,x12,x13,x14,x15,x16,x17,x18,x19,x20,x21,x22,x23,x24,x25,x26,x27,x28,x29,x30,x31],_=>rfl
end
section
variable {Y:Type}
section
variable {due scs:List (List Int)} {x:Int}
theorem J5(hs:∀ b∈scs,dG b)(hsn:scs.length<=10000000){t:TxS}(ht:TxSOk t){os:List (Int × List Int)}(ho:t.outs=os.map BE)(hos:OsOk os)(b8:List V)(c:Int):∀ (m i:Nat),i+m=os.length->∀ (l:List OwT),(∀ w∈l,OwOk w)->l.length+m<=90000 ->
  (∃ (l':List OwT) (e:Int),(∀ w∈l',OwOk w)/\l'.length=0/\Fin2 λL=>∀ (n:Nat),m<n->∀ (Y:Type) (kr:Ls->Int->Option Y) (kx:pK Y),
   fk bS bM ci bY L kr kx n (l.map dC) (dU due) (dU scs) x c (i:Int) b8 (txr t)=kr (l'.map dC) e) ∨
  (∃ l':List OwT,(∀ w∈l',OwOk w)/\l'.length<=l.length+m/\Fin2 λL=>∀ (n:Nat),m<n->∀ (Y:Type) (kr:Ls->Int->Option Y) (kx:pK Y),
   fk bS bM ci bY L kr kx n (l.map dC) (dU due) (dU scs) x c (i:Int) b8 (txr t)=kx (l'.map dC) (dU due) (dU scs) x c b8)
 | 0,i,hi,l,hl,hn=>by
  refine .inr ⟨l,hl,by omega,0,λL _ n hn Y kr kx=>?_⟩;obtain ⟨n,rfl⟩:∃ k,n=k+1:=⟨n-1,by omega⟩;have h2:∀ (k:Ls->Option Y),cLd 2 (txr t) 2 k=k t.outs:=λk=>j3 rfl k;rw [fk,kW,h2,ho,WcO,dt (by omega)]
 | m+1,i,hi,l,hl,hn=>by
  have hio:i<os.length:=by omega
  have hb:=hos.b _ (WaV hio);have hl4:=hos.l _ (WaV hio);obtain ⟨h,hh,hhb,L1,h1⟩:=zgz ht;have hn2:=hos.n;have hoi:t.outs[i]?=some (BE os[i]):=by rw [ho]; simp [hio]
  have hix:=Ho .u32 (i:Int);have hix:0<=Wbf .u32 (i:Int)/\Wbf .u32 (i:Int)<=4294967295:=hix;have hw:OwOk ⟨h,Wbf .u32 (i:Int),os[i].1,os[i].2,x,c==0,0⟩:=⟨hh,hhb,hix,hb,by show os[i].2.length<=1000; omega⟩;obtain ⟨l1,e1,g1,g2,g3⟩:=zgU hl (by omega) hw;have step:∀ (L:Nat),20000000+L1<=L->∀ (n:Nat) (Y:Type) (kr:Ls->Int->Option Y) (kx:pK Y),fk bS bM ci bY L kr kx (n+1) (l.map dC) (dU due) (dU scs) x c (i:Int) b8 (txr t) =
    ifb (!jN scs os[i].2) (fk bS bM ci bY L kr kx n (l.map dC) (dU due) (dU scs) x c ((i+1:Nat):Int) b8 (txr t)) (if e1=0 then fk bS bM ci bY L kr kx n (l1.map dC) (dU due) (dU scs) x c ((i+1:Nat):Int) b8 (txr t) else kr [] e1):=by
   intro L hL n Y kr kx;have h2:∀ (k:Ls->Option Y),cLd 2 (txr t) 2 k=k t.outs:=λk=>j3 rfl k;have h3:∀ (k:Ls->Option Y),cL 1 (WcM 1 (BE os[i])) 0 k=k (eB .u8 os[i].2):=λk=>ro rfl k;have hp:((row .u8 h++[V.sc (.int .u32 (Wbf .u32 (i:Int)))]):List V).length=33:=by simp [fW,hh]
   have hr:WcK 2 (BE os[i])=BE os[i]:=rfl;have hz:z37.length=37:=rfl;have q1:(cD z37 0 (row .u8 h++[V.sc (.int .u32 (Wbf .u32 (i:Int)))])).length=37:=by rw [EZ (by rw [hp,hz]; omega),hz]
   have q2:(cD (cD z37 0 (row .u8 h++[V.sc (.int .u32 (Wbf .u32 (i:Int)))])) 33 (BE os[i])).length=37:=by rw [EZ (by rw [q1]; show 33+2<=37; omega),q1]
   have q3:(cD (cD (cD z37 0 (row .u8 h++[V.sc (.int .u32 (Wbf .u32 (i:Int)))])) 33 (BE os[i])) 35 [(QQe x)]).length=37:=by rw [EZ (by rw [q2]; show 35+1<=37; omega),q2]
   rw [fk,kW,h2,ho,WcO,du (by omega),h2,ho,fe (c:=BE os[i]) (by simp [hio]),h3,Xa (by omega) hsn hs hb];refine congr (congrArg _ ?_) ?_
   ·rw [cH,up (by omega)]
   ·rw [bT (by rw [Ru]; omega),JB,WQ,h1 L (by omega),cH,bT ⟨by rw [fW,hh],by omega⟩,bT ⟨rfl,by rw [EZ (by rw [fW,hh]; decide)]; decide⟩,zhU hh,cH,h2,ho,fe (c:=BE os[i]) (by simp [hio]),hr,bT ⟨hp,by omega⟩,
     show (Wad 32 (QQa (0:Int))++[(QQc (0:Int)),(QQe (0:Int)),(V.sl 1 ([]:Ls)),(QQe (0:Int)),(V.sc (.bool false))])=z37 from rfl,
     bT ⟨rfl,by rw [q1]; omega⟩,bT ⟨rfl,by rw [q2]; omega⟩,bT ⟨rfl,by rw [q3]; omega⟩,zhu hh,cH,bT ⟨Rg hh _ _ _ _,by omega⟩,j8 (new:=Vp h (Wbf .u32 (i:Int)) os[i] x (c==0)) (by rw [Rg hh]; rfl),cH,bT (by rw [Rg hh]; omega),WbR (by rw [Rg hh]; omega),bT ⟨Rg hh _ _ _ _,by omega⟩,zhm hh,cH,zU,g3 L (by omega),iM,cH,up (by omega)]
  cases hq:jN scs os[i].2 with
  | false=>
   rcases J5 hs hsn ht ho hos b8 c m (i+1) (by omega) l hl (by omega) with ⟨l2,e2,k1,k2,L2,k3⟩ | ⟨l2,k1,k2,L2,k3⟩
   ·refine .inl ⟨l2,e2,k1,k2,20000000+L1+L2,λL hL n hn Y kr kx=>?_⟩;obtain ⟨n,rfl⟩:∃ k,n=k+1:=⟨n-1,by omega⟩;rw [step L (by omega),hq,Bool.not_false,gY,k3 L (by omega) n (by omega)]
   ·refine .inr ⟨l2,k1,by omega,20000000+L1+L2,λL hL n hn Y kr kx=>?_⟩;obtain ⟨n,rfl⟩:∃ k,n=k+1:=⟨n-1,by omega⟩;rw [step L (by omega),hq,Bool.not_false,gY,k3 L (by omega) n (by omega)]
  | true=>
   by_cases he:e1=0
   ·rcases J5 hs hsn ht ho hos b8 c m (i+1) (by omega) l1 g1 (by omega) with ⟨l2,e2,k1,k2,L2,k3⟩ | ⟨l2,k1,k2,L2,k3⟩
    ·refine .inl ⟨l2,e2,k1,k2,20000000+L1+L2,λL hL n hn Y kr kx=>?_⟩;obtain ⟨n,rfl⟩:∃ k,n=k+1:=⟨n-1,by omega⟩;rw [step L (by omega),hq,WcR,eD,if_pos he,k3 L (by omega) n (by omega)]
    ·refine .inr ⟨l2,k1,by omega,20000000+L1+L2,λL hL n hn Y kr kx=>?_⟩;obtain ⟨n,rfl⟩:∃ k,n=k+1:=⟨n-1,by omega⟩;rw [step L (by omega),hq,WcR,eD,if_pos he,k3 L (by omega) n (by omega)]
   ·refine .inl ⟨[],e1,by simp,rfl,20000000+L1,λL hL n hn Y kr kx=>?_⟩;obtain ⟨n,rfl⟩:∃ k,n=k+1:=⟨n-1,by omega⟩;rw [step L (by omega),hq,WcR,eD,if_neg he]; rfl
theorem zdL(hd:∀ b∈due,dG b)(hdn:due.length<=10000000){t:TxS}(ht:TxSOk t)(b8:List V)(sc:Ls)(i:Nat){l:List OwT}(hl:∀ w∈l,OwOk w)(hn:l.length<=1000000):∃ l':List OwT,(∀ w∈l',OwOk w)/\l'.length=l.length/\∀ (L:Nat),20000000<=L->∀ (Y:Type) (kx:zx Y),
  gV bS bM ci bY L kx L (l.map dC) (dU due) sc x (i:Int) 0 b8 (txr t)=kx (l'.map dC) (dU due) sc x (i:Int) b8 (txr t):=by
 have h1:∀ {Y:Type} (k:Ls->Option Y),cLd 35 (txr t) 1 k=k [ipt t++t.r]:=λk=>zfR t k;have hone:((([ipt t++t.r]:Ls).length:Nat):Int)=1:=rfl;by_cases h0:i=0
 ·subst h0;refine ⟨l,hl,rfl,λL hL Y kx=>?_⟩;obtain ⟨n,rfl⟩:∃ k,L=k+1:=⟨L-1,by omega⟩;rw [gV,jL,h1,hone,du (by omega),dt (by omega)]
 ·let v:OwT:=⟨t.h,t.ix,0,[],0,false,0⟩
  obtain ⟨l',g1,g2,g3⟩:=zdG hl hn (v:=v) ht.hl hd hdn x;refine ⟨l',g1,g2,λL hL Y kx=>?_⟩;obtain ⟨n,rfl⟩:∃ k,L=k+2:=⟨L-2,by omega⟩;have g:=λ(k:Ls->Option Y)=>g3 (n+2) hL Y k;have hv:WcK 33 (ipt t++t.r)=gG v:=zbZ ht;rw [gV,jL,h1,hone,du (by omega),du (by omega),h1,wx (by decide) (c:=ipt t++t.r) rfl,hv,g,cH,gV,jL,h1,hone,dt (by decide)]
end
end
section
variable {s:ScT}
variable {Y:Type}
theorem zfG(t:TxS):cD [(QQc (0:Int)),(V.gs 35 ([]:Ls)),(V.gs 2 ([]:Ls)),(QQc (0:Int))] 0 (WcK 4 (txr t))=txr t:=rfl
section
variable {due scs:List (List Int)} {x:Int}
theorem TU(hd:∀ b∈due,dG b)(hdn:due.length<=10000000)(hs:∀ b∈scs,dG b)(hsn:scs.length<=10000000){hdr:List V}(hh:hdr.length=68){tl:List TxS}(ht:∀ t∈tl,TxSOk t)(ht4:tl.length<=4):∀ (m i:Nat),i+m=tl.length->∀ (l:List OwT),(∀ w∈l,OwOk w)->l.length<=5000+2*i ->
  (∃ (l':List OwT) (e:Int),(∀ w∈l',OwOk w)/\l'.length=0/\Fin2 λL=>∀ (n:Nat),m<n->∀ (Y:Type) (kx:Ls->Option Y) (kr:Ls->Int->Option Y),
   gQ bS bM ci bY L kx kr n (l.map dC) (dU due) (dU scs) x (i:Int) (hdr++[V.sl 4 (tl.map txr)])=kr (l'.map dC) e) ∨
  (∃ l':List OwT,(∀ w∈l',OwOk w)/\l'.length<=5008/\Fin2 λL=>∀ (n:Nat),m<n->∀ (Y:Type) (kx:Ls->Option Y) (kr:Ls->Int->Option Y),
   gQ bS bM ci bY L kx kr n (l.map dC) (dU due) (dU scs) x (i:Int) (hdr++[V.sl 4 (tl.map txr)])=kx (l'.map dC))
 | 0,i,hi,l,hl,hn=>by
  have hb:(hdr++[V.sl 4 (tl.map txr)])[68]?=some (V.sl 4 (tl.map txr)):=by
   rw [Wal (by omega),hh]; rfl
  refine .inr ⟨l,hl,by omega,0,λL _ n hn Y kx kr=>?_⟩;obtain ⟨n,rfl⟩:∃ k,n=k+1:=⟨n-1,by omega⟩;rw [gQ,mQ,qT,j3 hb,WcO,dt (by omega)]
 | m+1,i,hi,l,hl,hn=>by
  have hb:(hdr++[V.sl 4 (tl.map txr)])[68]?=some (V.sl 4 (tl.map txr)):=by
   rw [Wal (by omega),hh]; rfl
  have hit:i<tl.length:=by omega
  have hti:=ht _ (WaV hit);obtain ⟨os,ho,hos⟩:=zeG hti;have hos2:=hos.n;obtain ⟨l1,g1,g2,g3⟩:=zdL (x:=x) hd hdn hti (hdr++[V.sl 4 (tl.map txr)]) (dU scs) i hl (by omega);have step:∀ (L:Nat),20000000<=L->∀ (n:Nat) (Y:Type) (kx:Ls->Option Y) (kr:Ls->Int->Option Y),gQ bS bM ci bY L kx kr (n+1) (l.map dC) (dU due) (dU scs) x (i:Int) (hdr++[V.sl 4 (tl.map txr)]) =
    fk bS bM ci bY L (λp10 p11=>mA bS bM ci bY L p10 p11 kr) (λp0 p1 p2 p4 p12 b8=>kG bS bM ci bY L p0 p1 p2 p4 p12 b8 (λp0 p1 p2 p4 p12 b8=>gQ bS bM ci bY L kx kr n p0 p1 p2 p4 p12 b8)) L (l1.map dC) (dU due) (dU scs) x (i:Int) ((0:Nat):Int) (hdr++[V.sl 4 (tl.map txr)]) (txr tl[i]):=by
   intro L hL n Y kx kr;rw [gQ,mQ,qT,j3 hb,WcO,du (by omega),j3 hb,fe (fo hit),bT ⟨rfl,by omega⟩,zfG,cH];refine (g3 L hL Y _).trans ?_;rfl
  rcases J5 (x:=x) (due:=due) hs hsn hti ho hos (hdr++[V.sl 4 (tl.map txr)]) (i:Int) os.length 0 (by omega) l1 g1 (by omega) with ⟨l2,e2,k1,k2,L2,k3⟩ | ⟨l2,k1,k2,L2,k3⟩
  ·refine .inl ⟨l2,e2,k1,k2,20000000+L2,λL hL n hn Y kx kr=>?_⟩;obtain ⟨n,rfl⟩:∃ k,n=k+1:=⟨n-1,by omega⟩;rw [step L (by omega),k3 L (by omega) L (by omega)]; rfl
  ·have next:∀ (L:Nat),20000000+L2<=L->∀ (n:Nat) (Y:Type) (kx:Ls->Option Y) (kr:Ls->Int->Option Y),gQ bS bM ci bY L kx kr (n+1) (l.map dC) (dU due) (dU scs) x (i:Int) (hdr++[V.sl 4 (tl.map txr)]) =
     gQ bS bM ci bY L kx kr n (l2.map dC) (dU due) (dU scs) x ((i+1:Nat):Int) (hdr++[V.sl 4 (tl.map txr)]):=by
    intro L hL n Y kx kr;rw [step L (by omega),k3 L (by omega) L (by omega),kG,cH,up (by omega)]
   rcases TU hd hdn hs hsn hh ht ht4 m (i+1) (by omega) l2 k1 (by omega) with ⟨l3,e3,q1,q2,L3,q3⟩ | ⟨l3,q1,q2,L3,q3⟩
   ·refine .inl ⟨l3,e3,q1,q2,20000000+L2+L3,λL hL n hn Y kx kr=>?_⟩;obtain ⟨n,rfl⟩:∃ k,n=k+1:=⟨n-1,by omega⟩;rw [next L (by omega),q3 L (by omega) n (by omega)]
   ·refine .inr ⟨l3,q1,q2,20000000+L2+L3,λL hL n hn Y kx kr=>?_⟩;obtain ⟨n,rfl⟩:∃ k,n=k+1:=⟨n-1,by omega⟩;rw [next L (by omega),q3 L (by omega) n (by omega)]
theorem ze4(hd:∀ b∈due,dG b)(hdn:due.length<=10000000)(hs:∀ b∈scs,dG b)(hsn:scs.length<=10000000){hdr:List V}(hh:hdr.length=68){tl:List TxS}(ht:∀ t∈tl,TxSOk t)(ht4:tl.length<=4){l:List OwT}(hl:∀ w∈l,OwOk w)(hn:l.length<=4096) :
  ∃ (l':List OwT) (e:Int),(∀ w∈l',OwOk w)/\l'.length<=4096/\Fin2 λL=>∀ (Y:Type) (k:Ls->Int->Option Y),fP Y L (l.map dC) (dU due) (dU scs) (hdr++[V.sl 4 (tl.map txr)]) x k=k (l'.map dC) e:=by
 rcases TU (x:=x) hd hdn hs hsn hh ht ht4 tl.length 0 (by omega) l hl (by omega) with ⟨l2,e2,k1,k2,L2,k3⟩ | ⟨l2,k1,k2,L2,k3⟩
 ·refine ⟨l2,e2,k1,by omega,L2+10,λL hL Y k=>?_⟩;simp only [fP,pC,tA];exact (k3 L (by omega) L (by omega) Y _ _).trans rfl
 ·by_cases hc:((l2.length:Nat):Int)>4096
  ·refine ⟨[],380,by simp,by simp,L2+10,λL hL Y k=>?_⟩;simp only [fP,pC,tA];refine (k3 L (by omega) L (by omega) Y _ _).trans ?_;rw [oq,WcO,du hc]; rfl
  ·refine ⟨l2,0,k1,by omega,L2+10,λL hL Y k=>?_⟩;simp only [fP,pC,tA];refine (k3 L (by omega) L (by omega) Y _ _).trans ?_;rw [oq,WcO,dt hc,bT (by simp [cy]; omega),WcQ,cH]
end
theorem QB(hs:ScOk s)(r:Int):(∀ b∈oO r s.tk,dG b)/\(oO r s.tk).length<=1000:=by
 refine ⟨λb hb=>?_,Nat.le_trans (zdI r s.tk) hs.tl⟩;simp only [oO,WbX,List.mem_filter] at hb;obtain ⟨t,⟨ht,_⟩,rfl⟩:=hb;exact (hs.tk t ht).s
theorem zdJ(hs:ScOk s){x:Int}(hx:0<=x/\x<=1000){b:List V}(hb:∀ N W,GL N W tN b):∃ (s':ScT) (e:Int),ScOk s'/\Fin2 λL=>∀ (Y:Type) (k:List V->Int->Option Y),cY Y L (fE s) x b k=k (fE s') e:=by
 obtain ⟨e0,_,h0⟩:=zeI hs x;have htl:=hs.tl;have hol:=hs.ol;have z:([(V.sl 3 ([]:Ls)),(V.sl 38 ([]:Ls))]:List V)=fE ⟨[],[]⟩:=rfl;have hbl:b.length=69:=(hb 0 (λ_=>0)).1.symm;have hbd:b.map V.ag=b:=Hl (by rfl) (hb 0 (λ_=>0));have hb69:WcK 69 b=b:=WbR (by omega);by_cases he0:e0=0;rotate_left
 ·refine ⟨⟨[],[]⟩,e0,qZ,2000000,λL hL Y k=>?_⟩;simp only [cY,oe,s_c,s_d,z];rw [h0 L hL,iM,if_neg he0,cH,bT ⟨trivial,rfl,by decide⟩]
 obtain ⟨e1,_,L1,h1⟩:=Xm hb;by_cases he1:e1=0;rotate_left
 ·refine ⟨⟨[],[]⟩,e1,qZ,2000000+L1,λL hL Y k=>?_⟩;simp only [cY,oe,s_c,s_d,z];rw [h0 L (by omega),iM,if_pos he0,bT (by omega),hb69,hbd,h1 L (by omega),iM,if_neg he1,cH,bT ⟨trivial,rfl,by decide⟩]
 obtain ⟨d1,d2⟩:=QB hs (g8 s.tk);obtain ⟨hdr,tl,rfl,q1,_,q2,_,q3⟩:=VV hb;obtain ⟨ow,e2,g1,g2,L2,g3⟩:=ze4 (x:=x) d1 (by omega) d1 (by omega) q1 q2 q3 hs.ow hol;by_cases he2:e2=0;rotate_left
 ·refine ⟨⟨[],[]⟩,e2,qZ,2000000+L1+L2,λL hL Y k=>?_⟩;simp only [cY,oe,s_c,s_d,z];rw [h0 L (by omega),iM,if_pos he0,bT (by omega),hb69,hbd,h1 L (by omega),iM,if_pos he1,s_1,K8 (by omega) (by omega),K8 (by omega) (by omega),bT (by omega),g3 L (by omega),iM,if_neg he2,cH,bT ⟨trivial,rfl,by decide⟩]
 ·obtain ⟨tk,t1,t2,t3⟩:=zhc hs (x:=x) (by omega);refine ⟨⟨tk,ow⟩,0,⟨t1,by show tk.length<=1000; omega,g1,g2⟩,2000000+L1+L2,λL hL Y k=>?_⟩;simp only [cY,oe,s_c,s_d,z];rw [h0 L (by omega),iM,if_pos he0,bT (by omega),hb69,hbd,h1 L (by omega),iM,if_pos he1,s_1,K8 (by omega) (by omega),K8 (by omega) (by omega),bT (by omega),g3 L (by omega),iM,if_pos he2,t3 L (by omega),bT (show (fE _).length=2 from rfl),zd3,zdR,cH,bT ⟨trivial,rfl,by decide⟩];rfl
end
section
noncomputable section
theorem ZJ:ed (cN rows) 320 zfw:=eH (D:=310) (md:=mdI) (is:=[Lg,TP,YK,TM,YN]) (WcW.2 ⟨cJ (by decide) La,WcW.2 ⟨cJ (by decide) WR,WcW.2 ⟨cJ (by decide) ZA,WcW.2 ⟨cJ (by decide) Vy,WcW.2 ⟨cJ (by decide) Zc,WcX _⟩⟩⟩⟩⟩) 10 (by decide) (by kernel_rfl)
end
end
end Go.Proofs.YtipklgbboecciaaGreat
