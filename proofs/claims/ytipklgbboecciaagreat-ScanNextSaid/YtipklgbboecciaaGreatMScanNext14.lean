/- Part 14 of the proof of ScanNext: an abstract machine over plain values, its soundness, and the functions of the program on plain values. -/
import Derived.Test.YtipklgbboecciaaGreatMScanNext13
namespace Go.Proofs.YtipklgbboecciaaGreat
set_option maxRecDepth 100000
set_option linter.unusedVariables false
set_option linter.unusedSimpArgs false
open IntKind renaming wrap->Wbf,u8->Wda
open List renaming replicate->Wad,length_map->WcO,getElem_mem->WaV,take_of_length_le->WbR,map_append->WcW,getElem?_append_right->Wal,mem_or_eq_of_mem_set->WcX,append_assoc->WcG,length_cons->WcY,mem_append->Wbt,take->WcK,mem_cons->WbL,mem_singleton->WcF,mem_map->WbX
open Bool renaming not_true->WcR
open Int renaming toNat->WcL,tmod->WcZ
section
variable {s:ScT}{l:List OwT}{i:Nat}{x:Int}{w:OwT}
variable {Y:Type}
theorem rf:ScOk ⟨[],[]⟩:=⟨by simp,by simp,by simp,by simp⟩
theorem zdQ(s:ScT)(k:Ls->Option Y):cL 3 (fE s) 0 k=k (s.tk.map jC):=rm rfl k
theorem zdW(s:ScT)(k:Ls->Option Y):cL 38 (fE s) 1 k=k (s.ow.map dC):=rm rfl k
theorem Ka(L:Nat)(h1:s.tk.length<=1000000)(h2:s.ow.length<=1000000)(k:Nat->Nat->List V->List V->Option Y):ca Y L (fE s) k=k s.tk.length s.ow.length (s.tk.map jC).flatten (s.ow.map dC).flatten:=by
 simp only [ca,zK,zdQ,zdW,WcO];rw [bT (show (fE s).length=2 from rfl),bT (by simp only [cy]; omega),bT (by simp only [cy]; omega)]
theorem R0(l:List TkT):cz 3 l.length (l.map jC).flatten=l.map jC:=by
 have:=At (Al l)
 rwa [WcO] at this
theorem SU(h:∀ w∈l,w.h.length=32):cz 38 l.length (l.map dC).flatten=l.map dC:=by
 have:=At (DC h)
 rwa [WcO] at this
theorem zfH(hs:ScOk s){b:List Int}(hb:dG b)(hl:b.length<=1000)(x:Int):∃ (s':ScT) (e:Int),ScOk s'/\∀ (L:Nat),2000000<=L->∀ (Y:Type) (k:List V->Int->Option Y),dz Y L (fE s) (eA .u8 b) x k=k (fE s') e:=by
 obtain ⟨v,hv⟩:=ND hs;have htl:=hs.tl;have hol:=hs.ol;have z:([(V.sl 3 ([]:Ls)),(V.sl 38 ([]:Ls))]:List V)=fE ⟨[],[]⟩:=rfl;have e:∀ (L:Nat),2000000<=L->∀ (Y:Type) (k:List V->Int->Option Y),dz Y L (fE s) (eA .u8 b) x k =
   ifb (!v) (k (fE ⟨[],[]⟩) 6) (ifb (decide (((s.tk.length:Nat):Int)>=1000)) (k (fE ⟨[],[]⟩) 4) (ifb (decide (((b.length:Nat):Int)>520)) (k (fE ⟨[],[]⟩) 4) (ifb (((b.length:Nat):Int)==0) (k (fE ⟨[],[]⟩) 93) (ifb (!cond (decide (x>=1)) (decide (x<=16777216)) false) (k (fE ⟨[],[]⟩) 5) (ifb (decide (lH (λt:TkT=>decide (t.aA=b)) s.tk 0>=0)) (k (fE ⟨[],[]⟩) 150) (k (fE ⟨s.tk++[⟨b,x,Wbf .i64 (x-1)⟩],s.ow⟩) 0)))))):=by
  intro L hL Y k;simp only [dz,FD,s_c,s_d,z];rw [hv L hL,s_0,WcO,jk,WZ,zgO hL hs hb,Ka L (by omega) (by omega),List.nil_append,cJ,cJ];have h1:cz 3 1 [(V.sl 1 (eA .u8 b)),(QQe x),(QQe (Wbf .i64 (x-1)))]=[jC ⟨b,x,Wbf .i64 (x-1)⟩]:=rfl;rw [h1,bT (by simp [jk,cy]; omega),bT (by simp [cy]; omega),cJ];have h2:WcK (s.tk.length*3) (s.tk.map jC).flatten=(s.tk.map jC).flatten:=WbR (by rw [Io (Al _),WcO]; omega);rw [h2,show (s.tk.map jC).flatten++[jC ⟨b,x,Wbf .i64 (x-1)⟩].flatten=((s.tk++[(⟨b,x,Wbf .i64 (x-1)⟩:TkT)]).map jC).flatten by simp,
   show s.tk.length+List.length [jC ⟨b,x,Wbf .i64 (x-1)⟩]=(s.tk++[(⟨b,x,Wbf .i64 (x-1)⟩:TkT)]).length by simp,R0,SU λw hw=>(hs.ow w hw).hl]
  rfl
 cases v with
 | false=>exact ⟨⟨[],[]⟩,6,rf,λL hL Y k=>by rw [e L hL]; rfl⟩
 | true=>
 by_cases c1:((s.tk.length:Nat):Int)>=1000
 ·exact ⟨⟨[],[]⟩,4,rf,λL hL Y k=>by rw [e L hL,WcR,eD,du c1]⟩
 by_cases c2:((b.length:Nat):Int)>520
 ·exact ⟨⟨[],[]⟩,4,rf,λL hL Y k=>by rw [e L hL,WcR,eD,dt c1,du c2]⟩
 by_cases c3:((b.length:Nat):Int)=0
 ·exact ⟨⟨[],[]⟩,93,rf,λL hL Y k=>by rw [e L hL,WcR,eD,dt c1,dt c2,fd c3]⟩
 cases c4:cond (decide (x>=1)) (decide (x<=16777216)) false with
 | false=>exact ⟨⟨[],[]⟩,5,rf,λL hL Y k=>by rw [e L hL,WcR,eD,dt c1,dt c2,ew c3,c4]; rfl⟩
 | true=>
 by_cases c5:lH (λt:TkT=>decide (t.aA=b)) s.tk 0>=0
 ·exact ⟨⟨[],[]⟩,150,rf,λL hL Y k=>by rw [e L hL,WcR,eD,dt c1,dt c2,ew c3,c4,WcR,eD,du c5]⟩
 ·refine ⟨⟨s.tk++[⟨b,x,Wbf .i64 (x-1)⟩],s.ow⟩,0,⟨λt ht=>?_,by simp; omega,hs.ow,hol⟩,λL hL Y k=>by rw [e L hL,WcR,eD,dt c1,dt c2,ew c3,c4,WcR,eD,dt c5]⟩;rcases Wbt.1 ht with h | h
  ·exact hs.tk t h
  ·obtain rfl:=WcF.1 h;have hx:=XX c4;refine ⟨hb,hl,by omega,?_⟩;show 0<=Wbf .i64 (x-1)/\Wbf .i64 (x-1)<=16777216;rw [kJ (by omega) (by omega)]; omega
theorem zex(hs:ScOk s)(x:Int):∃ e:Int,(e=0->x<=16777216)/\∀ (L:Nat),2000000<=L->∀ (Y:Type) (k:Int->Option Y),f6 Y L (fE s) x k=k e:=by
 obtain ⟨v,hv⟩:=ND hs;have htl:=hs.tl;have e:∀ (L:Nat),2000000<=L->∀ (Y:Type) (k:Int->Option Y),f6 Y L (fE s) x k=ifb (!v) (k 6) (ifb (((s.tk.length:Nat):Int)==0) (k 300) (ifb (x != Wbf .i64 (gV s.tk+1)) (k 300) (ifb (decide (x>16777216)) (k 300) (k 0)))):=by
  intro L hL Y k;simp only [f6,DM,s_c,s_d];rw [hv L hL,s_0,WcO,xn hL (by omega),cJ]
 cases v with
 | false=>exact ⟨6,by omega,λL hL Y k=>by rw [e L hL]; rfl⟩
 | true=>
 by_cases c1:((s.tk.length:Nat):Int)=0
 ·exact ⟨300,by omega,λL hL Y k=>by rw [e L hL,WcR,eD,fd c1]⟩
 by_cases c2:x=Wbf .i64 (gV s.tk+1);rotate_left
 ·exact ⟨300,by omega,λL hL Y k=>by rw [e L hL,WcR,eD,ew c1,iN,if_neg c2]⟩
 by_cases c3:x>16777216
 ·exact ⟨300,by omega,λL hL Y k=>by rw [e L hL,WcR,eD,ew c1,iN,if_pos c2,du c3]⟩
 ·exact ⟨0,by omega,λL hL Y k=>by rw [e L hL,WcR,eD,ew c1,iN,if_pos c2,dt c3]⟩
theorem zck{l:List TkT}(h:i<l.length):(l.map jC).flatten[0+((WcL (i:Int))*3)+2]?=some (QQe l[i].r):=by
 rw [show 0+((WcL (i:Int))*3)+2=i*3+2 by simp,OP (by omega) (Al l) (by omega) (fm h)]; rfl
theorem zht{l:List TkT}(h:i<l.length):(l.map jC).flatten[0+((WcL (i:Int))*3)+1]?=some (QQe l[i].b):=by
 rw [show 0+((WcL (i:Int))*3)+1=i*3+1 by simp,OP (by omega) (Al l) (by omega) (fm h)]; rfl
theorem zdU{l:List TkT}(h:i<l.length)(x:Int):cD (l.map jC).flatten (0+((WcL (i:Int))*3)+2) [V.sc (.int .i64 x)]=((l.set i { l[i] with r:=x }).map jC).flatten:=by
 rw [show 0+((WcL (i:Int))*3)+2=i*3+2 by simp,VZ (by omega) (Al l) (by omega) (fm h),List.map_set]; rfl
theorem zbb(l:List TkT):(l.map jC).flatten.length=l.length*3:=by rw [Io (Al l),WcO]
theorem XS{l:List TkT}(hl:∀ t∈l,TkOk t)(h:i<l.length)(hx:0<=x/\x<=16777216):∀ t∈l.set i { l[i] with r:=x },TkOk t:=by
 intro t ht;rcases WcX ht with h1 | rfl
 ·exact hl t h1
 ·have:=hl _ (WaV h);exact ⟨this.s,this.l,this.b,hx⟩
theorem NF{x:Int}(hx:0<=x/\x<=16777216):∀ (m i:Nat) (l:List TkT),(∀ t∈l,TkOk t)->l.length<=1000000->l.length-i=m->∃ l':List TkT,(∀ t∈l',TkOk t)/\l'.length=l.length/\∀ (L n:Nat),m<n->∀ (Y:Type) (kx:uR Y) (a b:Ls) (q:Nat) (c:List V),
  iY ca L kx n x (i:Int) a b l.length q (l.map jC).flatten c=kx a b l'.length q (l'.map jC).flatten c
 | 0,i,l,hl,hn,hi=>⟨l,hl,rfl,λL n hn Y kx a b q c=>by
  obtain ⟨n,rfl⟩:∃ k,n=k+1:=⟨n-1,by omega⟩;rw [iY,lf,dt (by omega)]⟩
 | m+1,i,l,hl,hn,hi=>by
  have h:i<l.length:=by omega
  have h2:(0:Int)<=(i:Int)/\(i:Int)<((l.length:Nat):Int):=by omega
  by_cases hr:l[i].r=Wbf .i64 (x-1)
  ·obtain ⟨l',g1,g2,g3⟩:=NF hx m (i+1) (l.set i { l[i] with r:=x }) (XS hl h hx) (by simpa using hn) (by simp; omega);refine ⟨l',g1,by simpa using g2,λL n hn Y kx a b q c=>?_⟩;obtain ⟨n,rfl⟩:∃ k,n=k+1:=⟨n-1,by omega⟩;have:=g3 L n (by omega) Y kx a b q c;rw [List.length_set] at this;rw [iY,lf,du h2.2,bT h2,eQ (zck h),cJ,fd hr,bT h2,bT ⟨rfl,by rw [zbb]; simp; omega⟩,zdU h,cJ,cJ,up (by omega),this]
  ·obtain ⟨l',g1,g2,g3⟩:=NF hx m (i+1) l hl hn (by omega);refine ⟨l',g1,g2,λL n hn Y kx a b q c=>?_⟩;obtain ⟨n,rfl⟩:∃ k,n=k+1:=⟨n-1,by omega⟩;rw [iY,lf,du h2.2,bT h2,eQ (zck h),cJ,ew hr,cJ,up (by omega),g3 L n (by omega)]
theorem zfX(hs:ScOk s)(hx:0<=x/\x<=16777216):∃ tk:List TkT,(∀ t∈tk,TkOk t)/\tk.length=s.tk.length/\∀ (L:Nat),2000000<=L->∀ (Y:Type) (k:List V->Option Y),ft Y L (fE s) x k=k (fE ⟨tk,s.ow⟩):=by
 have htl:=hs.tl;have hol:=hs.ol;obtain ⟨tk,g1,g2,g3⟩:=NF hx _ 0 s.tk hs.tk (by omega) rfl;refine ⟨tk,g1,g2,λL hL Y k=>?_⟩;simp only [ft,sr,xN,s_c,s_d];rw [Ka L (by omega) (by omega)];refine (g3 L L (by omega) Y _ _ _ _ _).trans ?_;rw [oV,R0,SU λw hw=>(hs.ow w hw).hl];rfl
theorem zga(h:w.h.length=32)(x:Int):cD (dC w) 37 [V.sc (.int .i64 x)]=dC { w with sp:=x }:=by
 rw [Le (by rw [fM h]; omega)];unfold dC;rw [List.set_append_right _ _ (by rw [i5 h]; omega),i5 h];rfl
theorem ZO(h:w.h.length=32):cz 38 1 (dC w)=[dC w]:=by
 simp only [cz,kK h]
theorem Ep{l:List OwT}(hl:∀ w∈l,OwOk w)(hn:l.length<=100000)(x:Int):∀ (m i:Nat) (acc:List OwT),(∀ w∈acc,OwOk w)->acc.length<=i->l.length-i=m->i<=l.length->∃ l':List OwT,(∀ w∈l',OwOk w)/\l'.length<=l.length/\∀ (L n:Nat),m<n->∀ (Y:Type) (kx:Ls->Option Y),
  jg L kx n (l.map dC) x (acc.map dC) (i:Int)=kx (l'.map dC)
 | 0,i,acc,ha,hal,hi,hil=>⟨acc,ha,by omega,λL n hn Y kx=>by
  obtain ⟨n,rfl⟩:∃ k,n=k+1:=⟨n-1,by omega⟩;rw [jg,lD,WcO,dt (by omega)]⟩
 | m+1,i,acc,ha,hal,hi,hil=>by
  have h:i<l.length:=by omega
  have hw:=hl _ (WaV h);have app:∀ w:OwT,OwOk w->∀ v∈acc++[w],OwOk v:=λw hw v hv=>(Wbt.1 hv).elim (ha v) λh=>(WcF.1 h) ▸ hw;by_cases c1:l[i].ht>x
  ·obtain ⟨l',g1,g2,g3⟩:=Ep hl hn x m (i+1) acc ha (by omega) (by omega) (by omega);refine ⟨l',g1,g2,λL n hn Y kx=>?_⟩;obtain ⟨n,rfl⟩:∃ k,n=k+1:=⟨n-1,by omega⟩;rw [jg,lD,WcO,du (by omega),fe (fm h),kK hw.hl,bT ⟨fM hw.hl,by omega⟩,LH hw.hl,cJ,eQ (kk hw.hl 2),du c1,cJ,up (by omega),g3 L n (by omega)]
  by_cases c2:l[i].sp>x
  ·have hw2:OwOk { l[i] with sp:=0 }:=⟨hw.hl,hw.hb,hw.ix,hw.s,hw.l⟩;obtain ⟨l',g1,g2,g3⟩:=Ep hl hn x m (i+1) (acc++[{ l[i] with sp:=0 }]) (app _ hw2) (by simp; omega) (by omega) (by omega);refine ⟨l',g1,g2,λL n hn Y kx=>?_⟩;obtain ⟨n,rfl⟩:∃ k,n=k+1:=⟨n-1,by omega⟩;have:=g3 L n (by omega) Y kx;rw [WcW] at this;rw [jg,lD,WcO,du (by omega),fe (fm h),kK hw.hl,bT ⟨fM hw.hl,by omega⟩,LH hw.hl,cJ,eQ (kk hw.hl 2),dt c1,eQ (kk hw.hl 4),du c2,bT ⟨rfl,by rw [fM hw.hl]; omega⟩,zga hw.hl,cJ,bT (by rw [fM hw2.hl]; omega),kK hw2.hl,bT ⟨fM hw2.hl,by omega⟩,Vj hw2.hl,ZO hw2.hl,bT (by simp [cy]; omega),cJ,cJ,up (by omega)];exact this
  ·obtain ⟨l',g1,g2,g3⟩:=Ep hl hn x m (i+1) (acc++[l[i]]) (app _ hw) (by simp; omega) (by omega) (by omega);refine ⟨l',g1,g2,λL n hn Y kx=>?_⟩;obtain ⟨n,rfl⟩:∃ k,n=k+1:=⟨n-1,by omega⟩;have:=g3 L n (by omega) Y kx;rw [WcW] at this;rw [jg,lD,WcO,du (by omega),fe (fm h),kK hw.hl,bT ⟨fM hw.hl,by omega⟩,LH hw.hl,cJ,eQ (kk hw.hl 2),dt c1,eQ (kk hw.hl 4),dt c2,bT (by rw [fM hw.hl]; omega),kK hw.hl,bT ⟨fM hw.hl,by omega⟩,Vj hw.hl,ZO hw.hl,bT (by simp [cy]; omega),cJ,cJ,up (by omega)];exact this
theorem zet(hl:∀ w∈l,OwOk w)(hn:l.length<=100000)(x:Int):∃ l':List OwT,(∀ w∈l',OwOk w)/\l'.length<=l.length/\∀ (L:Nat),2000000<=L->∀ (Y:Type) (k:Ls->Option Y),dy Y L (l.map dC) x k=k (l'.map dC):=by
 obtain ⟨l',g1,g2,g3⟩:=Ep hl hn x _ 0 [] (by simp) (by simp) rfl (by omega);refine ⟨l',g1,g2,λL hL Y k=>?_⟩;simp only [dy,xB,Dn];exact (g3 L L (by omega) Y _).trans rfl
theorem WK{x:Int}(hx:0<=x/\x<=16777216):∀ (m i:Nat) (l:List TkT),(∀ t∈l,TkOk t)->l.length<=1000000->l.length-i=m->∃ l':List TkT,(∀ t∈l',TkOk t)/\l'.length=l.length/\∀ (L n:Nat),m<n->∀ (Y:Type) (kx:wR Y) (d:List V) (a b:Ls) (q:Nat) (c:List V),
  jF cF cd ca dy L kx n x (i:Int) d a b l.length q (l.map jC).flatten c=kx x d a b l'.length q (l'.map jC).flatten c
 | 0,i,l,hl,hn,hi=>⟨l,hl,rfl,λL n hn Y kx d a b q c=>by
  obtain ⟨n,rfl⟩:∃ k,n=k+1:=⟨n-1,by omega⟩;rw [jF,mG,dt (by omega)]⟩
 | m+1,i,l,hl,hn,hi=>by
  have h:i<l.length:=by omega
  have h2:(0:Int)<=(i:Int)/\(i:Int)<((l.length:Nat):Int):=by omega
  have ht:=hl _ (WaV h);have hb:=ht.b;have hr:=ht.r;have hv:0<=W6 (Kc l[i].r x) (Wbf .i64 (l[i].b-1))/\W6 (Kc l[i].r x) (Wbf .i64 (l[i].b-1))<=16777216:=by
   rw [kJ (by omega) (by omega)];unfold W6 Kc;split <;> split <;> omega
  obtain ⟨l',g1,g2,g3⟩:=WK hx m (i+1) (l.set i { l[i] with r:=W6 (Kc l[i].r x) (Wbf .i64 (l[i].b-1)) }) (XS hl h hv) (by simpa using hn) (by simp; omega);refine ⟨l',g1,by simpa using g2,λL n hn Y kx d a b q c=>?_⟩;obtain ⟨n,rfl⟩:∃ k,n=k+1:=⟨n-1,by omega⟩;have:=g3 L n (by omega) Y kx d a b q c;rw [List.length_set] at this;rw [jF,mG,du h2.2,bT h2,eQ (zck h),cJ,bT h2,eQ (zht h),cJ,cJ,bT h2,bT ⟨rfl,by rw [zbb]; simp; omega⟩,zdU h,cJ,cJ,up (by omega),this]
theorem zgC(hs:ScOk s)(x:Int):∃ (s':ScT) (e:Int),ScOk s'/\∀ (L:Nat),2000000<=L->∀ (Y:Type) (k:List V->Int->Option Y),cS Y L (fE s) x k=k (fE s') e:=by
 obtain ⟨v,hv⟩:=ND hs;have htl:=hs.tl;have hol:=hs.ol;have z:([(V.sl 3 ([]:Ls)),(V.sl 38 ([]:Ls))]:List V)=fE ⟨[],[]⟩:=rfl;cases v with
 | false=>
  refine ⟨⟨[],[]⟩,6,rf,λL hL Y k=>?_⟩;simp only [cS,nu,pN,s_c,s_d,z];rw [hv L hL]; rfl
 | true=>
 cases c4:cond (decide (x>=0)) (decide (x<=16777216)) false with
 | false=>
  refine ⟨⟨[],[]⟩,5,rf,λL hL Y k=>?_⟩;simp only [cS,nu,pN,s_c,s_d,z];rw [hv L hL,WcR,eD,WZ,c4]; rfl
 | true=>
  obtain ⟨tk,g1,g2,g3⟩:=WK (XX c4) _ 0 s.tk hs.tk (by omega) rfl;obtain ⟨ow,g4,g5,g6⟩:=zet hs.ow (by omega) x;refine ⟨⟨tk,ow⟩,0,⟨g1,by show tk.length<=1000; omega,g4,by show ow.length<=4096; omega⟩,λL hL Y k=>?_⟩;simp only [cS,nu,pN,s_c,s_d,z];rw [hv L hL,WcR,eD,WZ,c4,WcR,eD,Ka L (by omega) (by omega)];refine (g3 L L (by omega) Y _ _ _ _ _ _).trans ?_;rw [oc,s_1,g6 L hL,R0];rfl
def spd(w:OwT)(x:Int):OwT:={ w with sp:=x }
theorem zbp(hl:∀ w∈l,w.h.length=32)(h:i<l.length){j:Nat}(hj:j<5):(l.map dC).flatten[i*38+(33+j)]?=(Ir l[i])[j]?:=by
 rw [OP (by omega) (DC hl) (by omega) (fm h),kk (hl _ (WaV h))]
theorem zfN(hl:∀ w∈l,w.h.length=32)(h:i<l.length)(x:Int):cD (l.map dC).flatten ((0+(WcL (i:Int))*38)+37) [V.sc (.int .i64 x)]=((l.set i (spd l[i] x)).map dC).flatten:=by
 have hw:=hl _ (WaV h);have e:=zga hw x;rw [Le (by rw [fM hw]; omega)] at e;rw [show ((0+(WcL (i:Int))*38)+37)=i*38+37 by simp,VZ (by omega) (DC hl) (by omega) (fm h),e,List.map_set]; rfl
theorem Ww(hl:∀ w∈l,w.h.length=32):(l.map dC).flatten.length=l.length*38:=by rw [Io (DC hl),WcO]
theorem zcf(hl:∀ w∈l,OwOk w)(h:i<l.length)(x:Int):∀ w∈l.set i (spd l[i] x),OwOk w:=by
 intro t ht;rcases WcX ht with h1 | rfl
 ·exact hl t h1
 ·have hw:=hl _ (WaV h);exact ⟨hw.hl,hw.hb,hw.ix,hw.s,hw.l⟩
theorem zfQ(L:Nat)(v n:Int)(hn:1<=n)(hn2:n<=1000000000000):∃ r,0<=r/\r<n/\∀ (Y:Type) (k:Int->Option Y),dg Y L v n k=k r:=by
 by_cases h:WcZ v n<0
 ·have h1:=Int.lt_tmod_of_pos v (show 0<n by omega);refine ⟨WcZ v n+n,by omega,by omega,λY k=>?_⟩;simp only [dg,Cv,cJ];rw [bT (by omega),du h,kJ (by omega) (by omega)]
 ·have h1:=Int.tmod_lt_of_pos v (show 0<n by omega);refine ⟨WcZ v n,by omega,h1,λY k=>?_⟩;simp only [dg,Cv,cJ];rw [bT (by omega),dt h]
theorem Ye(v n:Int)(hn:1<=n)(hn2:n<=1000000000000):∃ r,0<=r/\r<n/\∀ (L:Nat) (Y:Type) (k:Int->Option Y),dg Y L v n k=k r:=by
 obtain ⟨r,h1,h2,h3⟩:=zfQ 0 v n hn hn2;exact ⟨r,h1,h2,λL Y k=>h3 Y k⟩
def crw(w:OwT):List V:=gH w++[V.sc (.int .i64 w.val),V.sl 1 (eA .u8 w.aA),V.sc (.int .i64 w.ht),V.sc (.bool w.cb)]
theorem Ae(h:w.h.length=32):(crw w).length=37:=by simp [crw,i5 h]
theorem zg1(h:w.h.length=32):WcK 37 (dC w)=crw w:=by
 unfold dC crw Ir;rw [List.take_append,i5 h,WbR (by rw [i5 h]; omega)]; rfl
theorem zeX(w:OwT):(crw w).map V.ag=crw w:=by simp only [crw,WcW,WY]; rfl
theorem zdi(h:w.h.length=32):WcK 33 (crw w)=gH w:=by unfold crw; rw [<- i5 h,List.take_left]
theorem zeC(h:w.h.length=32):(crw w)[34]?=some (V.sl 1 (eA .u8 w.aA)):=by
 unfold crw;rw [Wal (by rw [i5 h]; omega),i5 h]; rfl
end
section
noncomputable section
def aU8:A:=.iv .u8 0 255
def li:A:=.iv .u32 0 4294967295
def VC:A:=.iv .u64 0 18446744073709551615
def oO:A:=.iv .i64 (-9223372036854775808) 9223372036854775807
def sX:A:=.iv .i64 0 999
def vV:List A:=Wad 32 aU8
def vy:A:=.agg vV
def vP:A:=.agg (Wad 4 VC)
def GZ:A:=.am 0 1 [[.int .u8 ⟨1,[]⟩],[.int .u8 ⟨1,[]⟩],[.iv .u8 1 6],[.int .u8 ⟨5,[]⟩]]
def zhZ:A:=.ai 0 1 0 1 [.am 0 1 [[.iv .u8 1 6]]]
def CV:List A:=li::(vV++(vV++[li,li,li]))
def DW:A:=.agg CV
def sN:List A:=CV++[VC,VC,VC,VC,.iv .i64 3 7,.int .u32 ⟨5,[]⟩,li,li,.am 0 33 [],.int .i64 ⟨1000,[]⟩,.iv .i64 4 6,.iv .i64 0 2]
def mN:A:=.agg sN
def zbS:A:=.ai 0 1 0 11 [li]
def EE:List A:=oO::(vV++[li,li,zbS])
def zA:A:=.agg EE
def zhJ:List A:=vV++[li]
def W0:A:=.agg zhJ
def zf9:List A:=vV++[li,li,zhZ]
def Sv:List A:=[oO,GZ]
def aTx:List A:=[li,.ai 0 35 1 1 zf9,.ai 0 2 1 2 Sv,li]
def wm:A:=.agg aTx
def tz:List A:=CV++[.ai 0 4 1 4 aTx]
def zZ:A:=.agg tz
def oC:List A:=vV++[li,oO,GZ,oO,.bool]
def zgg:A:=.agg oC
def q7:Int->A:=λn=>.ai 0 37 0 n oC
def tu:List A:=oO::(vV++[q7 100000])
def pD:A:=.agg tu
def K5:List A:=[q7 3]
def Pf:A:=.agg K5
def za3:Int->Int->A:=λn m=>.agg (sN++[.ai 0 69 0 n tz,.ai 0 34 1 m tu,.ai 0 36 1 m EE,.ai 0 1 0 n K5])
def zhR:SS:=⟨[(0,3),(-9223372036854775808,9223372036854775807),(0,100003),(0,3),(0,100000)],[⟨0,[(0,1),(3,-1)]⟩,⟨-100000,[(2,1),(3,-1)]⟩],rA 2 (.ex .ae) (aU8::.ptr 3 ⟨0,[]⟩::.ptr 4 ⟨0,[]⟩::rA 3 (.ex .ae) (.ak 1 4 ⟨0,[(0,1)]⟩ aTx::.int .i64 ⟨0,[(1,1)]⟩::.ak 1 37 ⟨0,[(2,1)]⟩ oC::.int .u8 ⟨0,[(3,1)]⟩::rA 101 (.ex .ae) [])),rA 3 .gone (.live true sN::.live true (oO::(vV++[.ak 0 37 ⟨0,[(4,1)]⟩ oC]))::rA 108 .gone [])⟩
def zh5:SS:=⟨[(0,3),(-9223372036854775808,9223372036854775807),(0,100003),(0,3),(0,100000),(0,255),(0,100003)],[⟨0,[(2,-1),(6,1)]⟩,⟨0,[(0,1),(3,-1)]⟩,⟨-100000,[(2,1),(3,-1)]⟩,⟨-2,[(3,1)]⟩],rA 2 (.ex .ae) (.int .u8 ⟨0,[(5,1)]⟩::.ptr 3 ⟨0,[]⟩::.ptr 4 ⟨0,[]⟩::rA 3 (.ex .ae) (.ak 1 4 ⟨0,[(0,1)]⟩ aTx::.int .i64 ⟨0,[(1,1)]⟩::.ak 1 37 ⟨0,[(2,1)]⟩ oC::.int .u8 ⟨0,[(3,1)]⟩::.int .i64 ⟨0,[(2,1)]⟩::.int .i64 ⟨0,[(6,1)]⟩::rA 99 (.ex .ae) [])),rA 3 .gone (.live true sN::.live true (oO::(vV++[.ak 0 37 ⟨0,[(4,1)]⟩ oC]))::rA 108 .gone [])⟩
def mdL:List (Nat × MD):=[(513,[(0,none)]),(566,[(0,none)]),(565,[(0,none)]),(563,[(0,none)]),(533,[(0,none)]),(569,[(0,none),(1,none)]),(473,[(0,none)]),(521,[(0,none)]),(482,[(0,none)]),(470,[(0,some zhR),(1,some zh5)]),(480,[(0,none)]),(525,[(0,none)])]
def mdI(g:Nat):MD:=zfF g mdL
def zd6:Inst:=⟨531,[.iv .u64 0 1000000],.ai 1 1 9 72 [aU8]⟩
def PF:Inst:=⟨569,[.agg (Wad 64 aU8)],.agg (Wad 64 li)⟩
def Qt:Inst:=⟨533,[.agg (Wad 8 li),.agg (Wad 64 aU8)],.agg (Wad 8 li)⟩
def Vc:Inst:=⟨494,[.ai 0 1 0 1000 [aU8]],vy⟩
def Iw:Inst:=⟨454,[.ai 0 1 0 1000 [aU8]],vy⟩
def RD:Inst:=⟨429,[DW],vy⟩
def ZV:Inst:=⟨563,[vP,vP,vP],.ah [vP,vP,.bool]⟩
def Ld:Inst:=⟨565,[.agg (Wad 4 (.int .u64 ⟨0,[]⟩))],.int .i64 ⟨0,[]⟩⟩
def U0:Inst:=⟨565,[vP],.iv .i64 0 256⟩
def Ph:Inst:=⟨513,[vP,.iv .i64 0 255],vP⟩
def Z0:Inst:=⟨566,[vP,.iv .i64 0 255],vP⟩
def HS:Inst:=⟨527,[li],.ah [vP,sX]⟩
def TV:Inst:=⟨564,[vP],li⟩
def RU:Inst:=⟨485,[vy,li],.bool⟩
def zB:Inst:=⟨515,[mN],.bool⟩
def OG:Inst:=⟨486,[zbS],li⟩
def Vl:Inst:=⟨526,[mN,li,li,li],.ah [li,sX]⟩
def Wb:Inst:=⟨484,[mN,zA],.ah [li,sX]⟩
def zaN:Inst:=⟨473,[mN,zA,vy,li],DW⟩
def J5:Inst:=⟨446,[mN,zA,DW],.ah [zA,sX]⟩
def TI:Inst:=⟨445,[mN,zA,DW,li],sX⟩
def Hd:Inst:=⟨149,[wm,.ex (.sc (.bool true))],.ai 1 1 0 500 [aU8]⟩
def Ku:Inst:=⟨149,[wm,.ex (.sc (.bool false))],.ai 1 1 0 500 [aU8]⟩
def C3:Inst:=⟨148,[wm],.bool⟩
def JY:Inst:=⟨132,[wm],sX⟩
def Rg:Inst:=⟨488,[zZ],.ai 1 1 0 5000 [aU8]⟩
def X0:Inst:=⟨558,[zZ],.bool⟩
def Zc:Inst:=⟨517,[wm],vy⟩
def zbN:Inst:=⟨519,[wm],vy⟩
def VD:Inst:=⟨520,[.ai 0 32 0 4 vV],vy⟩
def Wh:Inst:=⟨474,[.ai 0 4 1 4 aTx],vy⟩
def YK:Inst:=⟨522,[zZ],sX⟩
def zbm:Inst:=⟨478,[wm,.ai 0 37 0 1 oC,oO],.ah [oO,sX]⟩
def xm:Inst:=⟨136,[W0,W0],.iv .i64 (-1) 1⟩
def YG:Inst:=⟨521,[pD],.bool⟩
def Uf:Inst:=⟨472,[mN,oO],oO⟩
def zeH:Inst:=⟨476,[mN,pD,zZ],sX⟩
def Bm:Inst:=⟨483,[wm,oO],.ai 1 37 1 2 oC⟩
def Jw:Inst:=⟨480,[q7 100008,W0],.iv .i64 (-1) 100008⟩
def zft:Inst:=⟨482,[q7 100008],oO⟩
def RG:Inst:=⟨481,[q7 100000,wm,oO],.ah [.ai 1 37 0 100002 oC,sX]⟩
def Wp:Inst:=⟨481,[q7 100002,wm,oO],.ah [.ai 1 37 0 100004 oC,sX]⟩
def zam:Inst:=⟨481,[q7 100004,wm,oO],.ah [.ai 1 37 0 100006 oC,sX]⟩
def zg4:Inst:=⟨481,[q7 100006,wm,oO],.ah [.ai 1 37 0 100008 oC,sX]⟩
def Ys:Inst:=⟨516,[zgg,aU8],.ah [wm,oO]⟩
def Gu:Inst:=⟨470,[mN,pD,aU8],.ah [.ai 1 4 0 3 aTx,oO]⟩
def Yh:Inst:=⟨443,[mN,pD,zA,aU8],zZ⟩
def Ug:Inst:=⟨444,[mN,pD,zZ],.ah [pD,Pf,sX]⟩
def XO:Inst:=⟨442,[aU8],za3 0 1⟩
def zeM:Inst:=⟨422,[aU8,.ai 0 1 0 6 [aU8]],za3 6 7⟩
end
end
section
noncomputable section
theorem UV(L:Nat):FOk (cN rows) L 531 (M5 oX L) 1:=eG (D:=0) (by kernel_rfl) λm hm=>⟨gP,gS L,ep,Sx L⟩
theorem P2(L:Nat):FOk (cN rows) L 476 (BI cj L) 300:=ro (vM 476 L) (N7 L)
theorem R6(L:Nat):FOk (cN rows) L 429 (CZ co L) 300:=ro (vM 429 L) (PW L)
theorem Mi(L:Nat):FOk (cN rows) L 472 (xG bV L) 300:=ro (vM 472 L) (JW L)
theorem Gj(L:Nat):FOk (cN rows) L 480 (yf bP L) 1:=eG (D:=0) (by kernel_rfl) λm hm=>⟨jT,jS L,ep,Q4 L⟩
theorem wN(L:Nat):FOk (cN rows) L 193 (pz cA L) 1:=eG (D:=0) (by kernel_rfl) λm hm=>⟨yH,xz L,ep,MR L⟩
theorem RN(L:Nat):FOk (cN rows) L 453 (DG f0 L) 2:=eG (D:=1) (by kernel_rfl) λm hm=>⟨kD,kC cA L,(cU ep (wN L m (by omega))),O5 L⟩
theorem Km(L:Nat):FOk (cN rows) L 441 (wS bX L) 3:=eG (D:=2) (by kernel_rfl) λm hm=>⟨uL,uM f0 L,(cU ep (RN L m (by omega))),Jc L⟩
theorem PT(L:Nat):FOk (cN rows) L 477 (BS ce L) 4:=eG (D:=3) (by kernel_rfl) λm hm=>⟨fH,fL bP bX L,(cU (cU ep (Gj L m (by omega))) (Km L m (by omega))),Nx L⟩
theorem PX(L:Nat):FOk (cN rows) L 478 (BD cg L) 300:=ro (vM 478 L) (Ov L)
theorem UF(L:Nat):FOk (cN rows) L 481 (FL cw L) 300:=ro (vM 481 L) (RS L)
theorem Mw(L:Nat):FOk (cN rows) L 483 (yS bW L) 300:=ro (vM 483 L) (J8 L)
theorem PG(L:Nat):FOk (cN rows) L 482 (BQ ch L) 300:=ro (vM 482 L) (N1 L)
theorem MF(L:Nat):FOk (cN rows) L 479 (yA bU L) 1:=eG (D:=0) (by kernel_rfl) λm hm=>⟨ww,wo L,ep,K6 L⟩
theorem Mo(L:Nat):FOk (cN rows) L 444 (Fa j8 L) 301:=eG (D:=300) (by kernel_rfl) λm hm=>⟨eL,eM cj co bV ce cg cw bW ch bP bU L,(cU (cU (cU (cU (cU (cU (cU (cU (cU (cU ep (P2 L m (by omega))) (R6 L m (by omega))) (Mi L m (by omega))) (PT L m (by omega))) (PX L m (by omega))) (UF L m (by omega))) (Mw L m (by omega))) (PG L m (by omega))) (Gj L m (by omega))) (MF L m (by omega))),J9 L⟩
theorem Vs(L:Nat):FOk (cN rows) L 225 (Hr dF L) 1:=eG (D:=0) (by kernel_rfl) λm hm=>⟨Fm,Fu L,ep,UX L⟩
theorem Kr(L:Nat):FOk (cN rows) L 247 (qt fi L) 1:=eG (D:=0) (by kernel_rfl) λm hm=>⟨vh,vd L,ep,Jl L⟩
theorem Js(L:Nat):FOk (cN rows) L 217 (Cr dg L) 1:=eG (D:=0) (by kernel_rfl) λm hm=>⟨F7,FE L,ep,Up L⟩
theorem s7(L:Nat):FOk (cN rows) L 231 (lY bR L) 2:=eG (D:=1) (by kernel_rfl) λm hm=>⟨uS,u5 fi dg L,(cU (cU ep (Kr L m (by omega))) (Js L m (by omega))),Jf L⟩
theorem Jb(L:Nat):FOk (cN rows) L 423 (pc e7 L) 3:=eG (D:=2) (by kernel_rfl) λm hm=>⟨iw,iy bR L,(cU ep (s7 L m (by omega))),IB L⟩
theorem Tl(L:Nat):FOk (cN rows) L 422 (Df gF L) 400:=ro (vM 422 L) (Q7 L)
theorem SL(L:Nat):FOk (cN rows) L 411 (yZ dh L) 401:=eG (D:=400) (by kernel_rfl) λm hm=>⟨BP,BA bR e7 gF L,(cU (cU (cU ep (s7 L m (by omega))) (Jb L m (by omega))) (Tl L m (by omega))),Rm L⟩
theorem QM(L:Nat):FOk (cN rows) L 448 (BM dl L) 1:=eG (D:=0) (by kernel_rfl) λm hm=>⟨z7,zI L,ep,N5 L⟩
theorem MB(L:Nat):FOk (cN rows) L 136 (xS fu L) 1:=eG (D:=0) (by kernel_rfl) λm hm=>⟨iD,iF L,ep,KQ L⟩
theorem DP(L:Nat):FOk (cN rows) L 800 (uw bQ L) 2:=eG (D:=1) (by kernel_rfl) λm hm=>⟨ya,yp fu L,(cU ep (MB L m (by omega))),My L⟩
theorem Pw(L:Nat):FOk (cN rows) L 792 (Bs cv L) 3:=eG (D:=2) (by kernel_rfl) λm hm=>⟨jc,jb bQ L,(cU ep (DP L m (by omega))),NZ L⟩
theorem Dw(L:Nat):FOk (cN rows) L 831 (yj cd L) 1:=eG (D:=0) (by kernel_rfl) λm hm=>⟨Ft,F4 L,ep,UE L⟩
theorem GK(L:Nat):FOk (cN rows) L 832 (ye cm L) 1:=eG (D:=0) (by kernel_rfl) λm hm=>⟨jR,jQ L,ep,PA L⟩
theorem V8(L:Nat):FOk (cN rows) L 791 (IA hI L) 1:=eG (D:=0) (by kernel_rfl) λm hm=>⟨Fx,FU L,ep,Uu L⟩
theorem OU(L:Nat):FOk (cN rows) L 793 (zC ck L) 2:=eG (D:=1) (by kernel_rfl) λm hm=>⟨xx,xU hI L,(cU ep (V8 L m (by omega))),ME L⟩
theorem yc(L:Nat):FOk (cN rows) L 817 (q9 cF L) 4:=eG (D:=3) (by kernel_rfl) λm hm=>⟨fK,fI cv cd cm ck L,(cU (cU (cU (cU ep (Pw L m (by omega))) (Dw L m (by omega))) (GK L m (by omega))) (OU L m (by omega))),NS L⟩
theorem wP(L:Nat):FOk (cN rows) L 829 (pF ca L) 1:=eG (D:=0) (by kernel_rfl) λm hm=>⟨yx,yb L,ep,Mr L⟩
theorem UW(L:Nat):FOk (cN rows) L 819 (Fq dz L) 5:=eG (D:=4) (by kernel_rfl) λm hm=>⟨Dp,DO cF cd cm ca L,(cU (cU (cU (cU ep (yc L m (by omega))) (Dw L m (by omega))) (GK L m (by omega))) (wP L m (by omega))),SZ L⟩
theorem Sr(L:Nat):FOk (cN rows) L 797 (CX dy L) 1:=eG (D:=0) (by kernel_rfl) λm hm=>⟨kE,kF L,ep,Qq L⟩
theorem Oq(L:Nat):FOk (cN rows) L 827 (Ab cS L) 5:=eG (D:=4) (by kernel_rfl) λm hm=>⟨ju,jB cF cd ca dy L,(cU (cU (cU (cU ep (yc L m (by omega))) (Dw L m (by omega))) (wP L m (by omega))) (Sr L m (by omega))),LV L⟩
theorem pa(L:Nat):FOk (cN rows) L 825 (mK bO L) 1:=eG (D:=0) (by kernel_rfl) λm hm=>⟨iZ,iT L,ep,Kj L⟩
theorem I2(L:Nat):FOk (cN rows) L 837 (Av dc L) 2:=eG (D:=1) (by kernel_rfl) λm hm=>⟨kX,kW bO L,(cU ep (pa L m (by omega))),SK L⟩
theorem Tc(L:Nat):FOk (cN rows) L 130 (Dj dq L) 1:=eG (D:=0) (by kernel_rfl) λm hm=>⟨B0,BG L,ep,Pu L⟩
theorem BW(L:Nat):FOk (cN rows) L 802 (vJ bM L) 2:=eG (D:=1) (by kernel_rfl) λm hm=>⟨km,ko dq L,(cU ep (Tc L m (by omega))),Sg L⟩
theorem In(L:Nat):FOk (cN rows) L 160 (tj eY L) 2:=eG (D:=1) (by kernel_rfl) λm hm=>⟨rE,rP cA L,(cU ep (wN L m (by omega))),G5 L⟩
theorem NT(L:Nat):FOk (cN rows) L 194 (zO fT L) 1:=eG (D:=0) (by kernel_rfl) λm hm=>⟨jx,jz L,ep,Mn L⟩
theorem Jm(L:Nat):FOk (cN rows) L 159 (vc ff L) 2:=eG (D:=1) (by kernel_rfl) λm hm=>⟨sW,sY fT cA L,(cU (cU ep (NT L m (by omega))) (wN L m (by omega))),HK L⟩
theorem QN(L:Nat):FOk (cN rows) L 138 (BH dp L) 3:=eG (D:=2) (by kernel_rfl) λm hm=>⟨zW,zP eY ff L,(cU (cU ep (In L m (by omega))) (Jm L m (by omega))),OT L⟩
theorem Gx(L:Nat):FOk (cN rows) L 822 (xP cr L) 4:=eG (D:=3) (by kernel_rfl) λm hm=>⟨ku,kw bO dc bM dp L,(cU (cU (cU (cU ep (pa L m (by omega))) (I2 L m (by omega))) (BW L m (by omega))) (QN L m (by omega))),Qb L⟩
theorem R8(L:Nat):FOk (cN rows) L 840 (DI f6 L) 5:=eG (D:=4) (by kernel_rfl) λm hm=>⟨BK,Bu cF bO L,(cU (cU ep (yc L m (by omega))) (pa L m (by omega))),O3 L⟩
theorem O6(L:Nat):FOk (cN rows) L 522 (BE f9 L) 300:=ro (vM 522 L) (Oe L)
theorem Rx(L:Nat):FOk (cN rows) L 801 (BL bS L) 3:=eG (D:=2) (by kernel_rfl) λm hm=>⟨jV,jZ bM L,(cU ep (BW L m (by omega))),NL L⟩
theorem Vq(L:Nat):FOk (cN rows) L 517 (Hu ci L) 300:=ro (vM 517 L) (UC L)
theorem UA(L:Nat):FOk (cN rows) L 803 (FV bY L) 3:=eG (D:=2) (by kernel_rfl) λm hm=>⟨gE,gI bQ L,(cU ep (DP L m (by omega))),RQ L⟩
theorem S5(L:Nat):FOk (cN rows) L 795 (Ds fQ L) 301:=eG (D:=300) (by kernel_rfl) λm hm=>⟨eC,eE bS bM ci bY L,(cU (cU (cU (cU ep (Rx L m (by omega))) (BW L m (by omega))) (Vq L m (by omega))) (UA L m (by omega))),PQ L⟩
theorem L6(L:Nat):FOk (cN rows) L 841 (yd ft L) 2:=eG (D:=1) (by kernel_rfl) λm hm=>⟨i6,iU ca L,(cU ep (wP L m (by omega))),JF L⟩
theorem RA(L:Nat):FOk (cN rows) L 828 (BZ cY L) 302:=eG (D:=301) (by kernel_rfl) λm hm=>⟨zV,Am f6 f9 dc fQ ft L,(cU (cU (cU (cU (cU ep (R8 L m (by omega))) (O6 L m (by omega))) (I2 L m (by omega))) (S5 L m (by omega))) (L6 L m (by omega))),Np L⟩
theorem Sf(L:Nat):FOk (cN rows) L 814 (yB dn L) 303:=eG (D:=302) (by kernel_rfl) λm hm=>⟨kv,kG bR dl dz cS cr cY L,(cU (cU (cU (cU (cU (cU ep (s7 L m (by omega))) (QM L m (by omega))) (UW L m (by omega))) (Oq L m (by omega))) (Gx L m (by omega))) (RA L m (by omega))),PV L⟩
theorem wO(L:Nat):FOk (cN rows) L 824 (pK bN L) 1:=eG (D:=0) (by kernel_rfl) λm hm=>⟨jy,jt L,ep,LW L⟩
theorem EI(L:Nat):FOk (cN rows) L 584 (vS cq L) 1:=eG (D:=0) (by kernel_rfl) λm hm=>⟨zG,Aa L,ep,NN L⟩
theorem WR(L:Nat):FOk (cN rows) L 836 (Hn cQ L) 2:=eG (D:=1) (by kernel_rfl) λm hm=>⟨mj,mf bN L,(cU ep (wO L m (by omega))),UR L⟩
theorem I8(L:Nat):FOk (cN rows) L 549 (vq cO L) 2:=eG (D:=1) (by kernel_rfl) λm hm=>⟨tU,tq cq L,(cU ep (EI L m (by omega))),H3 L⟩
theorem Mq(L:Nat):FOk (cN rows) L 784 (yi cu L) 3:=eG (D:=2) (by kernel_rfl) λm hm=>⟨iV,i3 cO L,(cU ep (I8 L m (by omega))),Kp L⟩
theorem R7(L:Nat):FOk (cN rows) L 844 (yl cG L) 1:=eG (D:=0) (by kernel_rfl) λm hm=>⟨Bv,BF L,ep,PB L⟩
theorem DR(L:Nat):FOk (cN rows) L 191 (uf dP L) 1:=eG (D:=0) (by kernel_rfl) λm hm=>⟨yo,xw L,ep,MJ L⟩
theorem HE(L:Nat):FOk (cN rows) L 158 (s6 eZ L) 2:=eG (D:=1) (by kernel_rfl) λm hm=>⟨rW,rL dP L,(cU ep (DR L m (by omega))),Gv L⟩
theorem Oi(L:Nat):FOk (cN rows) L 192 (Ad fS L) 1:=eG (D:=0) (by kernel_rfl) λm hm=>⟨jA,jv L,ep,MT L⟩
theorem Jd(L:Nat):FOk (cN rows) L 157 (u9 fh L) 2:=eG (D:=1) (by kernel_rfl) λm hm=>⟨tV,tw fS dP L,(cU (cU ep (Oi L m (by omega))) (DR L m (by omega))),Iv L⟩
theorem VP(L:Nat):FOk (cN rows) L 137 (It cR L) 3:=eG (D:=2) (by kernel_rfl) λm hm=>⟨Fv,FH eZ fh L,(cU (cU ep (HE L m (by omega))) (Jd L m (by omega))),UB L⟩
theorem Uv(L:Nat):FOk (cN rows) L 821 (FT dw L) 4:=eG (D:=3) (by kernel_rfl) λm hm=>⟨gR,gW bN cq cQ cu cG cR L,(cU (cU (cU (cU (cU (cU ep (wO L m (by omega))) (EI L m (by omega))) (WR L m (by omega))) (Mq L m (by omega))) (R7 L m (by omega))) (VP L m (by omega))),SH L⟩
theorem SO(L:Nat):FOk (cN rows) L 823 (DD dm L) 1:=eG (D:=0) (by kernel_rfl) λm hm=>⟨jU,jP L,ep,Pe L⟩
end
end
section
variable {N L:Nat}{W:Nat->Int}{v:V}{r:List V}{es cs:Ls}{ht ix:Int}{h:List Int}
variable {Y:Type}
theorem zhx{q sz:Nat}{rows:List (List A)}(h:G N W (.am q sz rows) v):∃ es,v=mkL q sz es/\rows.length=es.length:=by
 generalize ha:A.am q sz rows=a at h;cases h <;> first | (cases ha; done) | skip
 rename_i es hl hr hh;cases ha;exact ⟨es,rfl,hl⟩
theorem zgX(h:G N W .bool v):∃ b,v=.sc (.bool b):=by
 cases h with
 | bool b=>exact ⟨b,rfl⟩
structure CoT where
 h:List Int
 ix:Int
 val:Int
 s:Ls
 ht:Int
 cb:Bool
variable {c:CoT}{l:List CoT}
def cpt(c:CoT):List V:=row .u8 c.h++[V.sc (.int .u32 c.ix)]
def dJ(c:CoT):List V:=cpt c++[V.sc (.int .i64 c.val),V.sl 1 c.s,V.sc (.int .i64 c.ht),V.sc (.bool c.cb)]
structure CoOk (c:CoT):Prop where
 hl:c.h.length=32
 sl:c.s.length=4
 g:∀ N W,GL N W oC (dJ c)
theorem GJ(h:c.h.length=32):(cpt c).length=33:=by simp [cpt,fV,h]
theorem wl(h:c.h.length=32):(dJ c).length=37:=by simp [dJ,GJ h]
theorem TO(h:c.h.length=32):WcK 33 (dJ c)=cpt c:=by unfold dJ; rw [<- GJ h,List.take_left]
theorem HV(h:c.h.length=32):WcK 37 (dJ c)=dJ c:=WbR (by rw [wl h]; omega)
theorem zfr(c:CoT):(cpt c).map V.ag=cpt c:=by simp only [cpt,WcW,Su]; rfl
theorem zcA(c:CoT):(dJ c).map V.ag=dJ c:=by simp only [dJ,WcW,zfr]; rfl
theorem YA(h:c.h.length=32)(j:Nat):(dJ c)[33+j]?=[V.sc (.int .i64 c.val),V.sl 1 c.s,V.sc (.int .i64 c.ht),V.sc (.bool c.cb)][j]?:=by
 unfold dJ;rw [Wal (by rw [GJ h]; omega),GJ h];congr 1; omega
theorem zfs(h:∀ N W,GL N W oC r):∃ c,r=dJ c/\CoOk c:=by
 have key:∃ c,r=dJ c/\c.h.length=32/\c.s.length=4:=by
  obtain ⟨a,r,rfl,h1,h2⟩:=G9 (h 0 (λ_=>0));obtain ⟨l,rfl,hl,_⟩:=JS h1;obtain ⟨v1,r,rfl,g1,h2⟩:=hY h2;obtain ⟨v2,r,rfl,g2,h2⟩:=hY h2;obtain ⟨v3,r,rfl,g3,h2⟩:=hY h2;obtain ⟨v4,r,rfl,g4,h2⟩:=hY h2;obtain ⟨v5,r,rfl,g5,h2⟩:=hY h2;obtain rfl:=ta h2;obtain ⟨n1,rfl,_⟩:=qh g1;obtain ⟨n2,rfl,_⟩:=qh g2;obtain ⟨s,rfl,hs⟩:=zhx g3;obtain ⟨n4,rfl,_⟩:=qh g4;obtain ⟨b,rfl⟩:=zgX g5;exact ⟨⟨l,n1,n2,s,n4,b⟩,by simp only [dJ,cpt,WcG]; rfl,hl,hs.symm⟩
 obtain ⟨c,rfl,h1,h2⟩:=key;exact ⟨c,rfl,h1,h2,h⟩
theorem Oo(h:∀ r∈es,∀ N W,GL N W oC r):∃ l:List CoT,es=l.map dJ/\∀ c∈l,CoOk c:=by
 induction es with
 | nil=>exact ⟨[],rfl,by simp⟩
 | cons e es ih=>
  obtain ⟨c,rfl,hc⟩:=zfs (h _ (List.mem_cons_self ..));obtain ⟨l,rfl,hl⟩:=ih λr hr=>h r (List.mem_cons_of_mem _ hr);exact ⟨c::l,rfl,λx hx=>(WbL.1 hx).elim (λe=>e ▸ hc) (hl x)⟩
theorem Lj{q sz:Nat}{lo hi:Int}{row:List A}(hq:q<2)(h:∀ N W,G N W (.ai q sz lo hi row) v):∃ es,v=mkL q sz es/\lo<=(es.length:Int)/\(es.length:Int)<=hi/\∀ r∈es,∀ N W,GL N W row r:=by
 obtain ⟨es,rfl,h1,h2,_⟩:=Ra (h 0 (λ_=>0));refine ⟨es,rfl,h1,h2,λr hr N W=>?_⟩;obtain ⟨es',e,_,_,h3⟩:=Ra (h N W);have:es=es':=by
  match q,hq with
  | 0,_=>simpa [mkL] using e
  | 1,_=>simpa [mkL] using e
 subst this; exact h3 r hr
theorem OS{q sz:Nat}{lo hi:Int}{row:List A}(h1:lo<=(es.length:Int))(h2:(es.length:Int)<=hi)(h:∀ r∈es,GL N W row r):G N W (.ai q sz lo hi row) (mkL q sz es):=
 .ai q sz lo hi row es ⟨h1,h2⟩ (λr hr=>(h r hr).1) (λr hr=>(h r hr).2)
theorem Lt{n:Int}(hl:∀ c∈l,CoOk c)(h:(l.length:Int)<=n):G N W (q7 n) (.sl 37 (l.map dJ)):=by
 refine OS (q:=0) (by simp) (by simpa using h) (λr hr=>?_);obtain ⟨c,hc,rfl⟩:=WbX.1 hr;exact (hl c hc).g N W
def j6(ht:Int)(h:List Int)(cs:Ls):List V:=V.sc (.int .i64 ht)::(row .u8 h++[V.sl 37 cs])
theorem kZ(hl:h.length=32):(j6 ht h cs).length=34:=by simp [j6,fV,hl]
theorem Bl(hl:h.length=32)(k:Ls->Option Y):cLd 37 (j6 ht h cs) 33 k=k cs:=by
 refine j4 ?_ k;unfold j6;rw [show 33=32+1 by rfl,List.getElem?_cons_succ,Wal (by rw [fV]; omega),fV,hl]; rfl
theorem CY(k:Int->Option Y):cI .i64 (j6 ht h cs) 0 k=k ht:=eQ rfl k
theorem Nz{cs':Ls}(hl:h.length=32):cD (j6 ht h cs) 33 [V.sl 37 cs']=j6 ht h cs':=by
 unfold cD j6;have e:(row Wda h).length=32:=by rw [fV,hl]
 rw [show (33:Nat)=32+1 by rfl,List.take_succ_cons,List.take_left' e];simp only [WcY,List.length_nil];rw [show (32+1+(0+1):Nat)=33+1 by rfl,List.drop_succ_cons,show (33:Nat)=(row Wda h).length+1 by rw [e],List.drop_append];simp
theorem VA:(j6 ht h cs).map V.ag=j6 ht h cs:=by
 simp only [j6,List.map_cons,WcW,Su]; rfl
theorem zd7{N:Nat}{W:Nat->Int}{k:IntKind}{lo hi:Int}:∀ {l:List Int},(∀ x∈l,lo<=x/\x<=hi)->GL N W (Wad l.length (.iv k lo hi)) (row k l)
 | [],_=>All2.nil
 | x::l,h=>.cons (.iv k lo hi x (h x (by simp))) (zd7 λy hy=>h y (by simp [hy]))
theorem VF{cs:List CoT}(h1:-9223372036854775808<=ht/\ht<=9223372036854775807)(hl:h.length=32)(hb:dG h)(hc:∀ c∈cs,CoOk c)(hn:cs.length<=100000):G N W pD (.agg (j6 ht h (cs.map dJ))):=by
 have:GL N W tu (j6 ht h (cs.map dJ)):=by
  refine .cons (.iv .i64 _ _ ht h1) (All2.append ?_ (.cons (Lt hc (by omega)) .nil));have:=zd7 (N:=N) (W:=W) (k:=.u8) (lo:=0) (hi:=255) (l:=h) hb;rw [hl] at this; exact this
 exact .agg _ _ this.1 this.2
theorem zbF{cs:List CoT}(hc:∀ c∈cs,CoOk c)(hn:cs.length<=3):G N W Pf (.agg [V.sl 37 (cs.map dJ)]):=by
 have:GL N W K5 [V.sl 37 (cs.map dJ)]:=.cons (Lt hc (by omega)) .nil;exact .agg _ _ this.1 this.2
theorem gl1{a:A}(h:G N W a v):GL N W [a] [v]:=.cons h .nil
structure TxS where
 n:Int
 h:List Int
 ix:Int
 r:List V
 outs:Ls
 m:Int
def ipt(t:TxS):List V:=row .u8 t.h++[V.sc (.int .u32 t.ix)]
def txr(t:TxS):List V:=[V.sc (.int .u32 t.n),V.sl 35 [ipt t++t.r],V.sl 2 t.outs,V.sc (.int .u32 t.m)]
structure TxSOk (t:TxS):Prop where
 hl:t.h.length=32
 rl:t.r.length=2
 g:∀ N W,GL N W aTx (txr t)
theorem zgP(h:∀ N W,GL N W aTx r):∃ t,r=txr t/\TxSOk t:=by
 have key:∃ t,r=txr t/\t.h.length=32/\t.r.length=2:=by
  obtain ⟨v1,r,rfl,g1,h⟩:=hY (h 0 (λ_=>0));obtain ⟨v2,r,rfl,g2,h⟩:=hY h;obtain ⟨v3,r,rfl,g3,h⟩:=hY h;obtain ⟨v4,r,rfl,g4,h⟩:=hY h;obtain rfl:=ta h;obtain ⟨n,rfl,_⟩:=qh g1;obtain ⟨m,rfl,_⟩:=qh g4;obtain ⟨es,rfl,e1,e2,e3⟩:=Ra g2;obtain ⟨fs,rfl,_⟩:=Ra g3;obtain ⟨i,rfl⟩:∃ i,es=[i]:=List.length_eq_one_iff.1 (by omega);obtain ⟨a,r,rfl,h1,h2⟩:=G9 (e3 i (by simp));obtain ⟨l,rfl,hl,_⟩:=JS h1;obtain ⟨w1,r,e4,q1,h3⟩:=hY h2;subst e4;obtain ⟨ix,rfl,_⟩:=qh q1;exact ⟨⟨n,l,ix,r,fs,m⟩,by simp only [txr,ipt,WcG]; rfl,hl,h3.1.symm⟩
 obtain ⟨t,rfl,h1,h2⟩:=key;exact ⟨t,rfl,h1,h2,h⟩
theorem XZ{t:TxS}(h:t.h.length=32):(ipt t).length=33:=by simp [ipt,fV,h]
def pf(c:CoT)(h:List Int)(ix:Int):Bool:=decide (c.h=h)&&decide (c.ix=ix)
theorem zez(hc:c.h.length=32)(hh:h.length=32)(k:Bool->Option Y):eqC 33 (cpt c) (row .u8 h++[V.sc (.int .u32 ix)]) k=k (pf c h ix):=by
 unfold eqC;rw [bT ⟨GJ hc,by simp [fV,hh]⟩];have:iS (cpt c) (row .u8 h++[V.sc (.int .u32 ix)])=some (pf c h ix):=by
  refine FI (by rw [fV,fV,hc,hh]) (D4 .u8 _ _ (by rw [hc,hh])) ?_;simp only [iS,if_pos,Option.map_some,Bool.and_true];rfl
 rw [this]
theorem zbv(l:List CoT)(hl:∀ c∈l,c.h.length=32)(hn:l.length<=1000000)(hh:h.length=32)(kr:Int->Option Y)(kx:Option Y):∀ (n i:Nat),i<=l.length->l.length-i<n ->
  nG L kr kx n (l.map dJ) (l.length:Int) (i:Int) (row .u8 h++[V.sc (.int .u32 ix)])=ifb (decide (lH (λc=>pf c h ix) (l.drop i) i>=0)) (kr (lH (λc=>pf c h ix) (l.drop i) i)) kx:=by
 intro n
 induction n with
 | zero=>intro i h1 h2; omega
 | succ n ih=>
  intro i h1 h2;simp only [nG,wD,cJ];by_cases hi:i<l.length
  ·have hc:=hl _ (WaV hi);rw [du (by omega),fe (fm hi),bT (by simp [fV,hh]),TO hc,WbR (show (row Wda h++[V.sc (.int .u32 ix)]).length<=33 by simp [fV,hh]),zez hc hh,up (by omega),ih (i+1) (by omega) (by omega),List.drop_eq_getElem_cons hi];rw [show lH (λc=>pf c h ix) (l[i]::List.drop (i+1) l) i=if pf l[i] h ix=true then (i:Int) else lH (λc=>pf c h ix) (List.drop (i+1) l) (i+1) from rfl];cases pf l[i] h ix with
   | true=>rw [gZ,if_pos rfl,du (by omega)]
   | false=>rw [eD,if_neg (by simp)]
  ·rw [dt (by omega),List.drop_of_length_le (by omega)];rw [dt (by simp [lH])]
theorem XL(hL:2000000<=L)(hl:∀ c∈l,c.h.length=32)(hn:l.length<=1000000)(hh:h.length=32)(k:Int->Option Y):bP Y L (l.map dJ) (row .u8 h++[V.sc (.int .u32 ix)]) k=k (lH (λc=>pf c h ix) l 0):=by
 simp only [bP,yF,Du,WcO];have:=zbv (L:=L) l hl hn (ix:=ix) hh (λp4=>nY L p4 k) (ot L k) L 0 (by omega) (by omega);rw [show ((0:Int))=((0:Nat):Int) from rfl,this,List.drop_zero];simp only [nY,ot];rcases w7 (λc=>pf c h ix) l 0 with ⟨e,_⟩ | ⟨i,hi,e,_⟩
 ·rw [e,dt (by omega)]
 ·rw [e,du (by omega)]
end
section
variable {Y:Type}
def zs(n:Nat):Nat:=(64-(n+9) % 64) % 64
def pb(n i:Nat):Int:=Wbf .u8 (Kd .u64 (Wbf .u64 ((8:Int)*(n:Int))) ((56-8*i:Nat):Int))
def pbs(n:Nat):Nat->Nat->List Int
 | 0,_=>[]
 | m+1,i=>pb n i::pbs n m (i+1)
theorem YD(n:Nat):∀ m i:Nat,(pbs n m i).length=m
 | 0,_=>rfl
 | m+1,i=>by rw [pbs,WcY,YD n m]
theorem Ut(n:Int):0<=Wbf .u8 n/\Wbf .u8 n<=255:=by
 unfold Wbf;simp only [IntKind.signed,Bool.false_and,Bool.false_eq_true,if_false];have h1:=Int.emod_nonneg n (show (2:Int) ^ IntKind.bits .u8≠0 by decide);have h2:=Int.emod_lt_of_pos n (show (0:Int)<2 ^ IntKind.bits .u8 by decide);exact ⟨h1,Int.le_of_lt_add_one h2⟩
theorem za5(n:Nat):∀ m i:Nat,∀ x∈pbs n m i,0<=x/\x<=255
 | 0,_=>λx h=>by simp [pbs] at h
 | m+1,i=>λx h=>by
  rw [pbs,WbL] at h;rcases h with rfl | h
  ·exact Ut _
  ·exact za5 n m (i+1) x h
def Om(n:Nat):List Int:=(128::Wad (zs n) 0)++pbs n 8 0
theorem WC(n:Nat):(Om n).length=9+zs n:=by simp [Om,YD]; omega
theorem zfx(n:Nat):∀ x∈Om n,0<=x/\x<=255:=by
 intro x hx;rw [Om,Wbt,WbL] at hx;rcases hx with (rfl | hx) | hx
 ·exact ⟨by decide,by decide⟩
 ·rw [List.eq_of_mem_replicate hx]; exact ⟨by decide,by decide⟩
 ·exact za5 n 8 0 x hx
theorem YY(n:Nat):zs n<64:=Nat.mod_lt _ (by decide)
theorem zg2(n:Nat):(n+9+zs n) % 64=0:=by unfold zs; omega
theorem zgp(n k:Nat)(h:k<zs n):(n+9+k) % 64≠0:=by unfold zs at h; omega
theorem WI(x:Int):cz 1 1 [V.sc (.int .u8 x)]=eA .u8 [x]:=rfl
theorem Re{Y:Type}(L:Nat){n:Nat}(hn:n<=100000000)(kx:Int->Ls->Option Y):∀ (f m k:Nat),k+m=zs n->m<f->oK L kx f (n:Int) (eA .u8 (128::Wad k 0))=kx (n:Int) (eA .u8 (128::Wad (zs n) 0))
 | 0,m,k,_,h=>by omega
 | f+1,m,k,h1,h2=>by
  have z64:=YY n;unfold oK xH;have e0:Wbf .u64 (((eA .u8 (128::Wad k 0)).length:Nat):Int)=((k+1:Nat):Int):=by
   rw [jk,WcY,List.length_replicate,Nv (by omega) (by omega)]
  have e1:Wbf .u64 ((n:Int)+((k+1:Nat):Int))=((n+(k+1):Nat):Int):=by rw [Nv (by omega) (by omega)]; omega
  have e2:Wbf .u64 (((n+(k+1):Nat):Int)+(8:Int))=((n+9+k:Nat):Int):=by rw [Nv (by omega) (by omega)]; omega
  have e3:WcZ ((n+9+k:Nat):Int) (64:Int)=(((n+9+k) % 64:Nat):Int):=(Int.ofNat_tmod (n+9+k) 64).symm;simp only [cJ,e0,e1,e2,e3];rw [iN]
  match m,h1,h2 with
  | 0,h1,h2=>
   have:k=zs n:=by omega
   subst this;rw [if_pos (by rw [zg2]; rfl)]
  | m+1,h1,h2=>
   have hz:=zgp n k (by omega);rw [if_neg (by omega)];rw [WI,De];rw [bT (by simp [jk,cy]; omega)];have e4:(128::Wad k (0:Int))++[0]=128::Wad (k+1) 0:=by
    rw [List.cons_append,List.replicate_succ']
   rw [e4];exact Re L hn kx f m (k+1) (by omega) (by omega)
theorem za4(L:Nat){n i:Nat}(hi:i<8){acc:List Int}(ha:acc.length<=1000000)(kh:Int->Ls->Int->Option Y)(kx:Ls->Option Y):mR L (n:Int) (eA .u8 acc) ((7:Int)-(i:Int)) kh kx=kh (n:Int) (eA .u8 (acc++[pb n i])) ((7:Int)-((i+1:Nat):Int)):=by
 unfold mR;have e8:Wbf .i64 ((8:Int)*((7:Int)-(i:Int)))=((56-8*i:Nat):Int):=by rw [kJ (by omega) (by omega)]; omega
 have e1:Wbf .i64 (((7:Int)-(i:Int))-(1:Int))=(7:Int)-((i+1:Nat):Int):=by rw [kJ (by omega) (by omega)]; omega
 rw [du (by omega:(7:Int)-(i:Int)>=0)];simp only [cJ,e8,e1,WI,De];rw [bT (by omega),bT (by simp [jk,cy]; omega)];exact Eq.trans rfl rfl
theorem Um{Y:Type}(L n:Nat)(kx:Ls->Option Y):∀ (f m i:Nat) (acc:List Int),i+m=8->m<f->acc.length<=900000+i->lz L kx f (n:Int) (eA .u8 acc) ((7:Int)-(i:Int))=kx (eA .u8 (acc++pbs n m i))
 | 0,m,i,acc,_,h,_=>by omega
 | f+1,0,i,acc,h1,h2,h3=>by
  unfold lz mR;rw [dt (by omega),pbs,List.append_nil]
 | f+1,m+1,i,acc,h1,h2,h3=>by
  unfold lz;rw [za4 L (by omega) (by omega)];refine (Um L n kx f m (i+1) _ (by omega) (by omega) (by simp; omega)).trans ?_;rw [pbs,WcG]; exact Eq.trans rfl rfl
theorem zeI{L:Nat}(hL:100<=L){n:Nat}(hn:n<=100000000)(k:Ls->Option Y):oX Y L (n:Int) k=k (eA .u8 (Om n)):=by
 unfold oX AF FR;have z64:=YY n;refine (Re L hn _ L (zs n) 0 (by omega) (by omega)).trans ?_;unfold oA vp;refine (Um L n _ L 8 0 _ rfl (by omega) (by simp; omega)).trans ?_;unfold rT Om;exact Eq.trans rfl rfl
theorem zcw{N:Nat}{W:Nat->Int}{l:List Int}{lo hi:Int}(hb:dG l)(h1:lo<=(l.length:Int))(h2:(l.length:Int)<=hi):G N W (.ai 1 1 lo hi [.iv .u8 0 255]) (.gs 1 (eA .u8 l)):=by
 refine .ai 1 1 lo hi [.iv .u8 0 255] (eA .u8 l) (by rw [jk]; exact ⟨h1,h2⟩) (λr hr=>?_) (λr hr i a v ha hv=>?_)
 ·obtain ⟨x,_,rfl⟩:=WbX.1 hr; rfl
 ·obtain ⟨x,hx,rfl⟩:=WbX.1 hr;cases i with
  | zero=>cases ha; cases hv; exact .iv .u8 0 255 x (hb x hx)
  | succ i=>cases ha
theorem zcq:d9 (cN rows) 20 zd6:=by
 refine YQ (D':=1) (by decide) (λL=>UV L) (λws hw=>?_);have h0:=hw 0 (λ_=>0);obtain ⟨v,r,rfl,g,h0⟩:=hY h0;obtain rfl:=ta h0;obtain ⟨n,rfl,h1,h2⟩:=qh g;obtain ⟨m,rfl⟩:∃ m:Nat,n=(m:Int):=⟨n.toNat,by omega⟩;refine ⟨.gs 1 (eA .u8 (Om m)),λN W=>zcw (zfx m) (by rw [WC]; omega) (by rw [WC]; have:=YY m; omega),100,λL hL=>?_⟩;show aI .u64 (.sc (.int .u64 (m:Int))) (λp0=>oX (V × Bor) L p0 λq=>some (V.gs 1 q,[]))=_;rw [EZ,zeI hL (by omega)]
end
end Go.Proofs.YtipklgbboecciaaGreat
