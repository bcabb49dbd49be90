/- ScanNext: for every input the call returns true, and each argument reads afterwards as it read before. No condition. -/
import Derived.Test.YtipklgbboecciaaGreatRows
import Derived.JoinedOf
import Derived.Test.YtipklgbboecciaaGreatMScanNext18
namespace Go.Proofs.YtipklgbboecciaaGreat
set_option maxRecDepth 100000
set_option linter.unusedVariables false
set_option linter.unusedSimpArgs false
open IntKind renaming wrap->Wbf
open List renaming drop_eq_getElem_cons->WaM,getElem_mem->WaV,length_map->WcO,drop_of_length_le->WaD,take_of_length_le->WbR,append_assoc->WcG,length_filter_le->Wdd,mem_append->Wbt,drop_zero->WcP,getElem?_eq_getElem->Wac,filter_cons->Wdf,mem_cons_of_mem->WcB,map_cons->WbD,mem_singleton->WcF,mem_cons_self->Wcy,mem_map->WbX
open Bool renaming false_or->Wde,or_eq_false_iff->Wdg,not_true->WcR
section
variable {s:ScT}{L:Nat}
variable {Y:Type}
structure Dec where
 l:List Int
 a:Int
 h0:0<=a
 h1:a<=l.length
 hl:l.length<=9223372036854775807
def Dec.es(d:Dec):Ls:=eA .i64 d.l
theorem ui(d:Dec)(n:Int)(hn:1<=n)(hn2:n<=1000000000000):∃ (r:Int) (d':Dec),0<=r/\r<n/\∀ (L:Nat) (Y:Type) (k:Int->Ls->Int->Option Y),bR Y L n d.es d.a k=k r d'.es d'.a:=by
 obtain ⟨l,a,h0,h1,hl⟩:=d;simp only [Dec.es];by_cases h:a<l.length
 ·obtain ⟨i,rfl⟩:∃ i:Nat,a=i:=⟨a.toNat,by omega⟩;have hi:i<l.length:=by omega
  obtain ⟨r,q1,q2,q3⟩:=Ye l[i] n hn hn2;refine ⟨r,⟨l,i+1,by omega,by omega,hl⟩,q1,q2,λL Y k=>?_⟩;simp only [bR,qF,fi,qw,cJ,jk];have w1:Wbf .i64 ((i:Int)+1)=(i:Int)+1:=kJ (by omega) (by omega);have w2:Wbf .i64 ((i:Int)+1-1)=(i:Int):=by rw [kJ (by omega) (by omega)]; omega
  rw [WM,if_pos (by omega),w1,w2,fe (VW _ hi),eQ (by rfl),q3]
 ·refine ⟨0,⟨l,a,h0,h1,hl⟩,by omega,by omega,λL Y k=>?_⟩;simp only [bR,qF,fi,qw,cJ,jk];rw [WM,if_neg (by omega)]
theorem E5(n:Int):0<=Wbf .u8 n/\Wbf .u8 n<=255:=Ij .u8 n
theorem P7:∀ (m:Nat) (acc:List Int) (d:Dec),dG acc->acc.length+m<=1000->∃ (l:List Int) (d':Dec),dG l/\l.length=acc.length+m/\∀ (L n:Nat),m<n->∀ (Y:Type) (kx:Ls->Ls->Int->Option Y),
  i9 bR L kx n (eA .u8 acc) (m:Int) d.es d.a=kx (eA .u8 l) d'.es d'.a
 | 0,acc,d,ha,hn=>⟨acc,d,ha,rfl,λL n hn Y kx=>by
  obtain ⟨n,rfl⟩:∃ k,n=k+1:=⟨n-1,by omega⟩;rw [i9,mo,dt (by omega)]⟩
 | m+1,acc,d,ha,hn=>by
  obtain ⟨r,d1,_,_,h1⟩:=ui d 256 (by omega) (by omega);have hb:dG (acc++[Wbf .u8 r]):=λx hx=>by
   rcases Wbt.1 hx with h | h
   ·exact ha x h
   ·rw [WcF.1 h]; exact E5 r
  obtain ⟨l,d2,g1,g2,g3⟩:=P7 m (acc++[Wbf .u8 r]) d1 hb (by simp; omega);refine ⟨l,d2,g1,by rw [g2]; simp; omega,λL n hn Y kx=>?_⟩;obtain ⟨n,rfl⟩:∃ k,n=k+1:=⟨n-1,by omega⟩;have e1:Wbf .i64 (((m+1:Nat):Int)-1)=(m:Int):=by rw [kJ (by omega) (by omega)]; omega
  have e2:cz 1 1 [(QQa (Wbf .u8 r))]=eA .u8 [Wbf .u8 r]:=rfl;rw [i9,mo,du (by omega),h1,cJ,e2,De,bT (by simp only [jk,cy,List.length_cons,List.length_nil]; omega),cJ,e1,cJ,g3 L n (by omega)]
theorem zdK(d:Dec):∃ (l:List Int) (d':Dec),dG l/\l.length<=6/\∀ (L:Nat),100<=L->∀ (Y:Type) (k:Ls->Ls->Int->Option Y),e7 Y L 6 d.es d.a k=k (eA .u8 l) d'.es d'.a:=by
 obtain ⟨r,d1,r0,r1,h1⟩:=ui d 7 (by omega) (by omega);obtain ⟨m,rfl⟩:∃ m:Nat,r=(m:Int):=⟨r.toNat,by omega⟩;obtain ⟨l,d2,g1,g2,g3⟩:=P7 m [] d1 (by simp [dG]) (by simp; omega);refine ⟨l,d2,g1,by simp at g2; omega,λL hL Y k=>?_⟩;simp only [e7,pg,u2,cJ];rw [show Wbf .i64 ((6:Int)+1)=7 from rfl,h1];exact (g3 L L (by omega) Y _).trans rfl
structure WoOk (w:List V) (bs:Ls):Prop where
 l:w.length=84
 d:w.map V.ag=w
 at80:w[80]?=some (V.sl 69 bs)
 n:bs.length<=6
 b:∀ b∈bs,∀ N W,GL N W tz b
theorem zcC{w:List V}(h:∀ N W,GL N W (sN++[.ai 0 69 0 6 tz,.ai 0 34 1 7 tu,.ai 0 36 1 7 EE,.ai 0 1 0 6 K5]) w):∃ bs,WoOk w bs:=by
 have hl:w.length=84:=(h 0 (λ_=>0)).1.symm;have h80:w[80]?=some w[80]:=Wac (by omega);have hg:∀ N W,G N W (.ai 0 69 0 6 tz) w[80]:=λN W=>(h N W).2 80 _ _ rfl h80;obtain ⟨bs,e,_,h2,h3⟩:=Lj (by omega) hg;exact ⟨bs,hl,G7 (by rfl) (h 0 (λ_=>0)),by rw [h80,e]; rfl,by omega,h3⟩
theorem zcU(d:Dec):∃ (w:List V) (bs:Ls) (d':Dec),WoOk w bs/\Fin2 λL=>∀ (Y:Type) (k:List V->Ls->Int->Option Y),dh Y L 6 d.es d.a k=k w d'.es d'.a:=by
 obtain ⟨r,d1,r0,r1,h1⟩:=ui d 256 (by omega) (by omega);obtain ⟨l,d2,g1,g2,g3⟩:=zdK d1;obtain ⟨v,g,L0,h⟩:=vw (cH (D':=400) (by decide) YZ) (ws:=[.sc (.int .u8 (Wbf .u8 r)),.sl 1 (eA .u8 l)]) (λN W=>.cons (.iv .u8 _ _ _ (E5 r)) (gl1 (OS (q:=0) (by simp) (by rw [jk]; omega) (λx hx=>by
  obtain ⟨n,hn,rfl⟩:=WbX.1 hx;exact gl1 (.iv .u8 _ _ n (g1 n hn))))))
 obtain ⟨w,rfl,_⟩:=Cq (g 0 (λ_=>0));have hw:∀ N W,GL N W (sN++[.ai 0 69 0 6 tz,.ai 0 34 1 7 tu,.ai 0 36 1 7 EE,.ai 0 1 0 6 K5]) w:=λN W=>by
  obtain ⟨_,e,h⟩:=Cq (g N W); cases e; exact h
 obtain ⟨bs,hbs⟩:=zcC hw;refine ⟨w,bs,d2,hbs,L0+100,λL hL Y k=>?_⟩;have hc:∀ (k:List V->Option Y),gF Y L (Wbf .u8 r) (eA .u8 l) k=k w:=λk=>(h L (by omega) Y _).trans (Zr _ _);simp only [dh,DZ];rw [h1,cJ,g3 L (by omega),hc,bT ⟨hbs.l,by omega⟩,j9 (by rw [hbs.l]; rfl),cJ,bT ⟨trivial,hbs.l,by decide⟩]
def Qo(s:ScT):List (List Int):=o4 (gV s.tk) s.tk++(s.ow.filter λw=>w.sp==0&&jM (o4 (gV s.tk) s.tk) w.aA).map GA
theorem ZF(l m:List (List Int)):List.take l.length (dS (l++m))=dS l:=by simp [dS]
theorem zb2(hs:ScOk s){due:List (List Int)}(hd:∀ b∈due,dG b)(hdn:due.length<=1000)(hL:20000000<=L)(kx:Ls->List V->Option Y):∀ (n i:Nat) (acc:List (List Int)),i<=s.ow.length->s.ow.length-i<n->acc.length<=i ->
  kg bO dc bM dp L kx n (dS (due++acc)) (due.length:Int) (i:Int) (fE s)=kx (dS (due++(acc++((s.ow.drop i).filter λw=>w.sp==0&&jM due w.aA).map GA))) (fE s):=by
 have hol:=hs.ol;intro n
 induction n with
 | zero=>intro i acc h1 h2; omega
 | succ n ih=>
  intro i acc h1 h2 h3;by_cases h:i<s.ow.length
  ·have hw:=hs.ow _ (WaV h);have h37:(List.drop 37 (dC s.ow[i]))[0]?=some (QQe s.ow[i].sp):=by rw [List.getElem?_drop]; exact kk hw.hl 4
   have hsc:(List.drop 1 (List.drop 33 (dC s.ow[i])))[0]?=some (V.sl 1 (eA .u8 s.ow[i].aA)):=by rw [T1 hw.hl]; rfl
   have hj:0<=(due.length:Int)/\(due.length:Int)<=(((dS (due++acc)).length:Nat):Int):=by rw [w6]; simp; omega
   rw [kg,nU,s_1,WcO,du (by omega),s_1,fe (fm h),eQ h37,bT hj,s_1,fe (fm h),rm hsc,Int.toNat_natCast,Nat.sub_zero,WcP,ZF,Xf hL (by omega) hd hw.s,s_1,fe (fm h),pZ hw.hl,zdE (by omega) hw.hl,EU,EN (by simp; omega),ED,cJ,cJ];simp only [cJ,up (show i<=1000000000 by omega)];rw [WcG,ih (i+1) (acc++[GA s.ow[i]]) (by omega) (by omega) (by simp; omega),ih (i+1) acc (by omega) (by omega) (by omega),WaM h,Wdf];by_cases c1:s.ow[i].sp=0
   ·rw [fd c1];cases c2:jM due s.ow[i].aA with
    | true=>
     rw [gZ,if_pos (by simp [c1]),WbD,WcG]; rfl
    | false=>rw [eD,if_neg (by simp)]
   ·rw [ew c1,if_neg (by simp [c1])]
  ·rw [kg,nU,s_1,WcO,dt (by omega),WaD (by omega)];simp
theorem Ly(hs:ScOk s)(tip:Int)(hL:20000000<=L)(k:Int->Ls->Bool->Option Y):cr Y L (fE s) tip k =
  ifb (decide (s.tk.length=0)||decide (gV s.tk>=tip)) (k 0 [] false) (k (Wbf .i64 (gV s.tk+1)) (dS (Qo s)) true):=by
 have htl:=hs.tl;obtain ⟨d1,d2⟩:=QL hs (gV s.tk);simp only [cr,yJ,Dq,s_c,s_d];rw [s_0,WcO,xn (by omega) (by omega),Jt (by omega) (by omega)];by_cases c1:s.tk.length=0
 ·rw [fd (by omega),decide_eq_true c1]; rfl
 ·rw [ew (by omega),decide_eq_false c1,Wde];refine congrArg _ ?_;have:=zb2 (Y:=Y) hs d1 d2 hL (λp7 b2=>mF bO dc bM dp L p7 b2 k) L 0 [] (by omega) (by have:=hs.ol; omega) (by simp);rw [List.append_nil,List.nil_append,WcP] at this;rw [w6];refine this.trans ?_;rw [mF,s_c,s_d,xn (by omega) (by omega),cJ];rfl
end
section
variable {b:List V}{s:ScT}
variable {Y:Type}
def zsc:List V:=[(V.gs 3 ([]:Ls)),(V.gs 38 ([]:Ls))]
def Rp(b:List V)(s:ScT):Prop:=b=fE s∨(b=zsc/\s=⟨[],[]⟩)
theorem Rp.d(h:Rp b s):List.map V.ag (List.take 2 b)=fE s:=by
 rcases h with rfl | ⟨rfl,rfl⟩ <;> rfl
theorem Rp.c(h:Rp b s)(k:Option Y):chk (0+2<=(List.length b)) k=k:=by
 rcases h with rfl | ⟨rfl,rfl⟩ <;> exact bT (Nat.le_refl 2) k
theorem Rp.l(h:Rp b s):b.length=2:=by
 rcases h with rfl | ⟨rfl,rfl⟩ <;> rfl
theorem Rp.set(h:Rp b s)(s':ScT):cD b 0 (fE s')=fE s':=j9 (by rw [h.l]; rfl)
theorem VE(s:ScT):cD [(V.gs 3 ([]:Ls)),(V.gs 38 ([]:Ls))] 0 (fE s)=fE s:=rfl
theorem Uc(L:Nat)(x:Int)(k:Ls->Option Y):dl Y L x k=k (eA .u8 [1,1,Wbf .u8 (1+Int.tmod x 6),5]):=by
 simp only [dl,Bz,cJ]; rfl
theorem zcH(x:Int):dG [1,1,Wbf .u8 (1+Int.tmod x 6),5]:=by
 intro n hn;simp only [List.mem_cons,List.not_mem_nil,or_false] at hn;have:=E5 (1+Int.tmod x 6);rcases hn with rfl | rfl | rfl | rfl <;> omega
theorem NC{m:Nat}(h:m<=1000):Wbf .i64 (((m+1:Nat):Int)-1)=(m:Int):=by rw [kJ (by omega) (by omega)]; omega
theorem TU{w:List V}{bs:Ls}(hw:WoOk w bs):∀ (m:Nat),m<=100->∀ (d:Dec) (b:List V) (s:ScT),ScOk s->Rp b s->∃ (b':List V) (s':ScT) (d':Dec),ScOk s'/\Rp b' s'/\Fin2 λL=>∀ (n:Nat),m<n->∀ (Y:Type) (kx:ux Y) (p q:Ls),
  fG bR dl dz cS cr cY L kx n (m:Int) d.es d.a w p q b=kx d'.es d'.a p q b'
 | 0,_,d,b,s,hs,hb=>⟨b,s,d,hs,hb,0,λL _ n hn Y kx p q=>by
  obtain ⟨n,rfl⟩:∃ k,n=k+1:=⟨n-1,by omega⟩;rw [fG,ig,dt (by omega)]⟩
 | m+1,hm,d,b,s,hs,hb=>by
  have step:∃ (b1:List V) (s1:ScT) (d1:Dec),ScOk s1/\Rp b1 s1/\Fin2 λL=>∀ (n:Nat) (Y:Type) (kx:ux Y) (p q:Ls),
    fG bR dl dz cS cr cY L kx (n+1) ((m+1:Nat):Int) d.es d.a w p q b=fG bR dl dz cS cr cY L kx n (m:Int) d1.es d1.a w p q b1:=by
   obtain ⟨r,d1,r0,r1,h1⟩:=ui d 4 (by omega) (by omega);have h80:∀ {Y:Type} (k:Ls->Option Y),cLd 69 w 80 k=k bs:=λk=>j4 hw.at80 k;have hbn:=hw.n;by_cases c0:r=0
   ·obtain ⟨r2,d2,_,_,h2⟩:=ui d1 6 (by omega) (by omega);obtain ⟨r3,d3,_,_,h3⟩:=ui d2 3 (by omega) (by omega);obtain ⟨s1,e,hs1,h4⟩:=zfH hs (zcH (Wbf .u8 r2)) (by simp) (Wbf .i64 (1+r3));by_cases he:e=0
    ·refine ⟨fE s1,s1,d3,hs1,.inl rfl,2000000,λL hL n Y kx p q=>?_⟩;rw [fG,ig,du (by omega),h1,fd c0,hb.c,h2,cJ,Uc,h3,cJ,hb.d,h4 L hL,bT ⟨rfl,by omega⟩,VE,cJ,fd he,s_c,TG,bT ⟨rfl,by rw [hb.l]; omega⟩,hb.set,cJ,NC (by omega),cJ]
    ·refine ⟨b,s,d3,hs,hb,2000000,λL hL n Y kx p q=>?_⟩;rw [fG,ig,du (by omega),h1,fd c0,hb.c,h2,cJ,Uc,h3,cJ,hb.d,h4 L hL,bT ⟨rfl,by omega⟩,VE,cJ,ew he,NC (by omega),cJ]
   by_cases c1:r=1
   ·have e22:Wbf .i64 (((bs.length:Nat):Int)+1)=((bs.length+1:Nat):Int):=up (by omega);obtain ⟨r2,d2,_,_,h2⟩:=ui d1 ((bs.length+1:Nat):Int) (by omega) (by omega);obtain ⟨s1,e,hs1,h4⟩:=zgC hs r2;by_cases he:e=0
    ·obtain ⟨r3,d3,_,_,h3⟩:=ui d2 4 (by omega) (by omega);by_cases c3:r3=0
     ·refine ⟨fE s1,s1,d3,hs1,.inl rfl,2000000,λL hL n Y kx p q=>?_⟩;rw [fG,ig,du (by omega),h1,ew c0,fd c1,hb.c,h80,e22,cJ,h2,hb.d,h4 L hL,bT ⟨rfl,by omega⟩,VE,cJ,fd he,h3,fd c3,s_c,TG,bT ⟨rfl,by rw [hb.l]; omega⟩,hb.set,cJ,NC (by omega),cJ]
     ·refine ⟨b,s,d3,hs,hb,2000000,λL hL n Y kx p q=>?_⟩;rw [fG,ig,du (by omega),h1,ew c0,fd c1,hb.c,h80,e22,cJ,h2,hb.d,h4 L hL,bT ⟨rfl,by omega⟩,VE,cJ,fd he,h3,ew c3,NC (by omega),cJ]
    ·refine ⟨b,s,d2,hs,hb,2000000,λL hL n Y kx p q=>?_⟩;rw [fG,ig,du (by omega),h1,ew c0,fd c1,hb.c,h80,e22,cJ,h2,hb.d,h4 L hL,bT ⟨rfl,by omega⟩,VE,cJ,ew he,NC (by omega),cJ]
   ·cases cn:decide (s.tk.length=0)||decide (gV s.tk>=((bs.length:Nat):Int)) with
    | true=>
     refine ⟨b,s,d1,hs,hb,20000000,λL hL n Y kx p q=>?_⟩;rw [fG,ig,du (by omega),h1,ew c0,ew c1,hb.c,h80,hb.d,Ly hs _ hL,cn,gZ,eD,NC (by omega),cJ]
    | false=>
     simp only [Wdg,decide_eq_false_iff_not] at cn;have hr0:0<=gV s.tk:=Wu s.tk (-1) (λt ht=>(hs.tk t ht).r.1) (.inr λe=>cn.1 (by rw [e]; rfl));obtain ⟨j,hj⟩:∃ j:Nat,gV s.tk=(j:Int):=⟨(gV s.tk).toNat,by omega⟩;have hjb:j<bs.length:=by omega
     have ej:Wbf .i64 (gV s.tk+1)=((j+1:Nat):Int):=by rw [hj]; exact up (by omega)
     have ek:Wbf .i64 (((j+1:Nat):Int)-1)=(j:Int):=by rw [kJ (by omega) (by omega)]; omega
     obtain ⟨s1,e,hs1,L1,h4⟩:=zcg hs (x:=((j+1:Nat):Int)) (by omega) (hw.b _ (WaV hjb));have hbl:(bs[j]).length=69:=(hw.b _ (WaV hjb) 0 (λ_=>0)).1.symm;have hbd:(bs[j]).map V.ag=bs[j]:=G7 (by rfl) (hw.b _ (WaV hjb) 0 (λ_=>0));refine ⟨fE s1,s1,d1,hs1,.inl rfl,20000000+L1,λL hL n Y kx p q=>?_⟩;have cn':(decide (s.tk.length=0)||decide (gV s.tk>=((bs.length:Nat):Int)))=false:=by
      simp only [Wdg,decide_eq_false_iff_not]; exact cn
     rw [fG,ig,du (by omega),h1,ew c0,ew c1,hb.c,h80,hb.d,Ly hs _ (by omega),cn',eD,gZ,hb.c,h80,ej,ek,cJ,fe (Wac hjb),WbR (by omega),hbd,h4 L (by omega),bT ⟨rfl,by rw [hb.l]; omega⟩,hb.set,cJ,NC (by omega),cJ]
  obtain ⟨b1,s1,d1,hs1,hb1,L1,h1⟩:=step;obtain ⟨b2,s2,d2,hs2,hb2,L2,h2⟩:=TU hw m (by omega) d1 b1 s1 hs1 hb1;refine ⟨b2,s2,d2,hs2,hb2,L1+L2,λL hL n hn Y kx p q=>?_⟩;obtain ⟨n,rfl⟩:∃ k,n=k+1:=⟨n-1,by omega⟩;rw [h1 L (by omega),h2 L (by omega) n (by omega)]
theorem zfg{w:List V}{bs:Ls}(hw:WoOk w bs)(d:Dec):∃ (b:List V) (s:ScT) (d':Dec),ScOk s/\Rp b s/\Fin2 λL=>∀ (Y:Type) (k:List V->Ls->Int->Option Y),dn Y L w d.es d.a k=k b d'.es d'.a:=by
 obtain ⟨r,d1,r0,r1,h1⟩:=ui d 24 (by omega) (by omega);obtain ⟨m,rfl⟩:∃ m:Nat,r=(m:Int):=⟨r.toNat,by omega⟩;obtain ⟨b,s,d2,g1,g2,L1,g3⟩:=TU hw m (by omega) d1 zsc ⟨[],[]⟩ rf (.inr ⟨rfl,rfl⟩);refine ⟨b,s,d2,g1,g2,L1+200,λL hL Y k=>?_⟩;simp only [dn,xT,C7];rw [h1];refine (g3 L (by omega) L (by omega) Y _ _ _).trans ?_;rw [sj,g2.c,WbR (by rw [g2.l]; omega),bT ⟨g2.l,by omega⟩,j9 (by rw [g2.l]; rfl),cJ,bT ⟨rfl,g2.l,by decide⟩]
end
section
variable {b:List Int}{N:List (List Int)}
variable {Y:Type}
def vn(N:List (List Int)):Lm:=N.map λb=>(sk b,.sc (.bool true))
theorem Ln(N:List (List Int))(b c:List Int):jM (b::N) c=(decide (b=c)||jM N c):=rfl
theorem Yf{b:List Int}(hb:dG b):∀ {N:List (List Int)},(∀ x∈N,dG x)->CL (sk b) (vn N)=some (if jM N b then some (.sc (.bool true)) else none)
 | [],_=>rfl
 | x::N,h=>by
  have ih:=Yf hb (N:=N) λy hy=>h y (WcB _ hy);simp only [vn,WbD,CL,YI hb (h x (Wcy ..)),Ln] at ih ⊢;by_cases hx:b=x
  ·subst hx; simp
  ·have hx':¬ x=b:=λe=>hx e.symm;simp only [decide_eq_false hx,decide_eq_false hx',Wde];exact ih
theorem zbH{b:List Int}(hb:dG b):∀ {N:List (List Int)},(∀ x∈N,dG x)->Ny (sk b) (.sc (.bool true)) (vn N)=some (vn (if jM N b then N else N++[b]))
 | [],_=>rfl
 | x::N,h=>by
  have ih:=zbH hb (N:=N) λy hy=>h y (WcB _ hy);simp only [vn,WbD,Ny,YI hb (h x (Wcy ..)),Ln] at ih ⊢;by_cases hx:b=x
  ·subst hx; simp
  ·have hx':¬ x=b:=λe=>hx e.symm;simp only [decide_eq_false hx,decide_eq_false hx',Wde];rw [ih];by_cases q:jM N b=true
   ·rw [if_pos q,if_pos q]; rfl
   ·rw [if_neg q,if_neg q]; rfl
theorem zhm(hb:dG b)(hN:∀ x∈N,dG x)(k:Bool->Option Y):(mAt 1 (sk b) (vn N) λq=>aB (Option.getD q (V.sc (.bool false))) k)=k (jM N b):=by
 have h:qB 1 (sk b)=true:=rfl;simp only [mAt,h,Yf hb hN];cases jM N b <;> rfl
theorem zg7(hb:dG b)(hN:∀ x∈N,dG x)(k:Lm->Option Y):We 1 (sk b) (V.sc (.bool true)) (vn N) k=k (vn (if jM N b then N else N++[b])):=by
 have h:qB 1 (sk b)=true:=rfl;simp only [We,h,zbH hb hN]
theorem ze8{L:Nat}(hb:dG b)(hN:∀ x∈N,dG x)(k:Bool->Lm->Option Y):cG Y L (eA .u8 b) (vn N) k=k (jM N b) (vn N):=by
 simp only [cG,C2,pX];exact zhm hb hN λv=>k v (vn N)
theorem zdI(N:List (List Int))(b c:List Int):jM (if jM N b then N else N++[b]) c=(jM N c||decide (b=c)):=by
 cases h:jM N b with
 | false=>simp [jM,List.any_append]
 | true=>
  simp only [if_true];by_cases hx:b=c
  ·subst hx; rw [h]; rfl
  ·rw [decide_eq_false hx,Bool.or_false]
theorem N8{l:List TkT}(hl:∀ t∈l,TkOk t)(hn:l.length<=1000000)(r:Int):∀ (m i:Nat) (N:List (List Int)),(∀ x∈N,dG x)->l.length-i=m->∃ N':List (List Int),(∀ x∈N',dG x)/\(∀ c,jM N' c=(jM N c||jM (o4 r (l.drop i)) c))/\∀ (L n:Nat),m<n->∀ (Y:Type) (kx:Lm->Option Y),
  kI bN L kx n r (l.map jC) (l.length:Int) (i:Int) (vn N)=kx (vn N')
 | 0,i,N,hN,hi=>⟨N,hN,λc=>by rw [WaD (by omega)]; simp [o4,jM],λL n hn Y kx=>by
  obtain ⟨n,rfl⟩:∃ k,n=k+1:=⟨n-1,by omega⟩;rw [kI,nF,dt (by omega)]⟩
 | m+1,i,N,hN,hi=>by
  have h:i<l.length:=by omega
  have ht:=hl _ (WaV h);by_cases hr:l[i].r=r
  ·have hN2:∀ x∈(if jM N l[i].aA then N else N++[l[i].aA]),dG x:=λx hx=>by
    split at hx
    ·exact hN x hx
    ·rcases Wbt.1 hx with h | h
     ·exact hN x h
     ·rw [WcF.1 h]; exact ht.s
   obtain ⟨N',g1,g2,g3⟩:=N8 hl hn r m (i+1) _ hN2 (by omega);refine ⟨N',g1,λc=>?_,λL n hn Y kx=>?_⟩
   ·rw [g2,zdI,WaM h,EW,if_pos hr,Ln,Bool.or_assoc]
   ·obtain ⟨n,rfl⟩:∃ k,n=k+1:=⟨n-1,by omega⟩;rw [kI,nF,du (by omega),fe (fm h),k_c,Q3,cJ,Vm,fd hr,Vr,pX];refine (zg7 ht.s hN _).trans ?_;rw [cJ,up (by omega),g3 L n (by omega)]
  ·obtain ⟨N',g1,g2,g3⟩:=N8 hl hn r m (i+1) N hN (by omega);refine ⟨N',g1,λc=>?_,λL n hn Y kx=>?_⟩
   ·rw [g2,WaM h,EW,if_neg hr]
   ·obtain ⟨n,rfl⟩:∃ k,n=k+1:=⟨n-1,by omega⟩;rw [kI,nF,du (by omega),fe (fm h),k_c,Q3,cJ,Vm,ew hr,cJ,up (by omega),g3 L n (by omega)]
theorem zeq{s:ScT}(hs:ScOk s):∃ N:List (List Int),(∀ x∈N,dG x)/\(∀ c,jM N c=jM (o4 (gV s.tk) s.tk) c)/\∀ (L:Nat),2000000<=L->∀ (Y:Type) (k:Lm->Option Y),cQ Y L (fE s) k=k (vn N):=by
 have htl:=hs.tl;obtain ⟨N,g1,g2,g3⟩:=N8 hs.tk (by omega) (gV s.tk) _ 0 [] (by simp) rfl;refine ⟨N,g1,λc=>by rw [g2]; rfl,λL hL Y k=>?_⟩;simp only [cQ,CI,HU,s_c,s_d];rw [FK hL (by omega) (λt ht=>(hs.tk t ht).r.1),s_0,WcO];exact (g3 L L (by omega) Y _).trans rfl
end
section
variable {l:List OwT}{w:OwT}{L:Nat}{s:ScT}
variable {Y:Type}
theorem WD(L:Nat){l:List Int}(hl:l.length<=1000000)(k:Ls->Option Y):cq Y L (eA .u8 l) k=k (eA .u8 l):=by
 have hc:cz 1 (eA .u8 l).length (eA .u8 l).flatten=eA .u8 l:=At λe he=>by
  obtain ⟨x,_,rfl⟩:=WbX.1 he; rfl
 simp only [cq,B2];cases l with
 | nil=>rfl
 | cons x l=>
  show chk _ (chk _ (k (cz 1 (eA .u8 (x::l)).length (eA .u8 (x::l)).flatten)))=_;rw [hc,bT (by
   show (0+(eA .u8 (x::l)).length)*1<=cy/\0+(eA .u8 (x::l)).length<=cy;rw [jk]; simp only [cy]; omega),bT (.inl (by simp))]
theorem zg3(w:OwT)(hl:w.h.length=32)(L:Nat)(k:List V->Option Y):cO Y L (crw w) k=cq Y L (eA .u8 w.aA) (λv=>k (gH w++[V.sc (.int .i64 w.val),V.sl 1 v,V.sc (.int .i64 w.ht),V.sc (.bool w.cb)])):=by
 obtain ⟨h,ix,val,s,ht,cb,sp⟩:=w
 match h,hl with
 | [x0,x1,x2,x3,x4,x5,x6,x7,x8,x9,x10,x11,x12,x13,x14,x15,x16,x17,x18,x19,x20,x21,x22,x23,x24,x25,x26,x27,x28,x29,x30,x31],_=>rfl
theorem zhH(hw:OwOk w)(L:Nat)(k:List V->Option Y):cO Y L (crw w) k=k (crw w):=by
 rw [zg3 w hw.hl,WD L (by have:=hw.l; omega)]; rfl
theorem zf2(h:w.h.length=32):cD (List.replicate 32 (QQa (0:Int))++[(QQc (0:Int)),(QQe (0:Int)),(V.gs 1 ([]:Ls)),(QQe (0:Int)),(V.sc (.bool false))]) 0 (crw w)=crw w:=j9 (by rw [Ae h]; rfl)
theorem zer(h:w.h.length=32):cD (List.replicate 32 (QQa (0:Int))++[(QQc (0:Int)),(QQe (0:Int)),(V.sl 1 ([]:Ls)),(QQe (0:Int)),(V.sc (.bool false))]) 0 (crw w)=crw w:=j9 (by rw [Ae h]; rfl)
theorem zfZ(h:w.h.length=32):cz 37 1 (crw w)=[crw w]:=by
 simp only [cz]; rw [WbR (by rw [Ae h]; omega)]
theorem zbY(hl:∀ w∈l,OwOk w)(hn:l.length<=100000)(L:Nat)(kx:Ls->Option Y):∀ (n i:Nat) (acc:List OwT),l.length-i<n->acc.length<=i->i<=l.length ->
  jX cO L kx n (acc.map crw) (l.map dC) (l.length:Int) (i:Int)=kx ((acc++(l.drop i).filter λw=>w.sp==0).map crw):=by
 intro n
 induction n with
 | zero=>intro i acc h1; omega
 | succ n ih=>
  intro i acc h1 h2 h3;by_cases h:i<l.length
  ·have hw:=hl _ (WaV h);rw [jX,nk,du (by omega),fe (fm h),kK hw.hl,bT ⟨fM hw.hl,by omega⟩,LH hw.hl,cJ,eQ (kk hw.hl 4),WaM h,Wdf];by_cases c:l[i].sp=0
   ·have:=ih (i+1) (acc++[l[i]]) (by omega) (by simp; omega) (by omega);rw [List.map_append] at this;rw [fd c,bT (by rw [fM hw.hl]; omega),zg1 hw.hl,zeX,zhH hw,bT ⟨Ae hw.hl,by omega⟩,zer hw.hl,zfZ hw.hl,bT (by simp [cy]; omega),cJ,cJ,up (by omega),if_pos (by simp [c])];refine this.trans ?_;rw [WcG]; rfl
   ·rw [ew c,cJ,up (by omega),ih (i+1) acc (by omega) (by omega) (by omega),if_neg (by simp [c])]
  ·rw [jX,nk,dt (by omega),WaD (by omega)]; simp
theorem Zq(hl:∀ w∈l,OwOk w)(hn:l.length<=100000)(hL:2000000<=L)(k:Ls->Option Y):cu Y L (l.map dC) k=k ((l.filter λw=>w.sp==0).map crw):=by
 simp only [cu,sA,yK,WcO];exact (zbY hl hn L _ L 0 [] (by omega) (by simp) (by omega)).trans rfl
theorem ze1(hs:ScOk s)(r:Int)(L:Nat)(kx:Int->Ls->List V->Option Y):∀ (n i:Nat) (acc:List (List Int)),s.tk.length-i<n->acc.length<=i->i<=s.tk.length ->
  kP bN cq cQ cu cG cR L kx n r (dS acc) (s.tk.map jC) (s.tk.length:Int) (i:Int) (fE s)=kx r (dS (acc++o4 r (s.tk.drop i))) (fE s):=by
 have htl:=hs.tl;intro n
 induction n with
 | zero=>intro i acc h1; omega
 | succ n ih=>
  intro i acc h1 h2 h3;by_cases h:i<s.tk.length
  ·have ht:=hs.tk _ (WaV h);rw [kP,oM,du (by omega),fe (fm h),k_c,Q3,cJ,Vm,WaM h,EW];by_cases c:s.tk[i].r=r
   ·rw [fd c,Vr,WD L (by have:=ht.l; omega),EU,EN (by omega),cJ,ED,cJ,up (by omega),ih (i+1) _ (by omega) (by simp; omega) (by omega),if_pos c,WcG]; rfl
   ·rw [ew c,cJ,up (by omega),ih (i+1) _ (by omega) (by omega) (by omega),if_neg c]
  ·rw [kP,oM,dt (by omega),WaD (by omega)]; simp [o4]
theorem zeP(hl:∀ w∈l,OwOk w)(hn:l.length<=100000){N:List (List Int)}(hN:∀ x∈N,dG x)(r:Int)(hL:10<=L)(kx:Int->Ls->Lm->Option Y):∀ (n i:Nat) (acc:List (List Int)),l.length-i<n->acc.length<=2000+i->i<=l.length ->
  jW bN cq cQ cu cG cR L kx n r (dS acc) (l.map crw) (l.length:Int) (i:Int) (vn N)=kx r (dS (acc++((l.drop i).filter λw=>jM N w.aA).map GA)) (vn N):=by
 intro n
 induction n with
 | zero=>intro i acc h1; omega
 | succ n ih=>
  intro i acc h1 h2 h3;by_cases h:i<l.length
  ·have hw:=hl _ (WaV h);rw [jW,mX,du (by omega),fe (fm h),WbR (by rw [Ae hw.hl]; omega),bT ⟨Ae hw.hl,by omega⟩,zf2 hw.hl,cJ,j4 (zeC hw.hl),ze8 hw.s hN,WaM h,Wdf];cases c:jM N l[i].aA with
   | true=>rw [gZ,bT (by rw [Ae hw.hl]; omega),zdi hw.hl,zeS (by omega) hw.hl,EU,EN (by omega),cJ,ED,cJ,up (by omega),ih (i+1) _ (by omega) (by simp; omega) (by omega),if_pos rfl,WcG]; rfl
   | false=>rw [eD,cJ,up (by omega),ih (i+1) _ (by omega) (by omega) (by omega),if_neg (by simp)]
  ·rw [jW,mX,dt (by omega),WaD (by omega)]; simp
theorem DN(hs:ScOk s)(tip:Int)(hL:20000000<=L)(k:Int->Ls->Bool->Option Y):dw Y L (fE s) tip k =
  ifb (decide (s.tk.length=0)||decide (gV s.tk>=tip)) (k 0 [] false) (k (Wbf .i64 (gV s.tk+1)) (dS (Qo s)) true):=by
 have htl:=hs.tl;have hol:=hs.ol;obtain ⟨N,g1,g2,g3⟩:=zeq hs;obtain ⟨d1,d2⟩:=QL hs (gV s.tk);simp only [dw,Az,F9,s_c,s_d];rw [FK (by omega) (by omega) (λt ht=>(hs.tk t ht).r.1),s_0,WcO];by_cases c1:s.tk.length=0
 ·rw [fd (by omega),decide_eq_true c1]; rfl
 ·rw [ew (by omega),decide_eq_false c1,Wde];refine congrArg _ ?_;rw [s_0,WcO];refine (ze1 hs (gV s.tk) L _ L 0 [] (by omega) (by simp) (by omega)).trans ?_;rw [List.nil_append,WcP,mJ,qr,s_c,s_d,g3 L (by omega),s_1,Zq hs.ow (by omega) (by omega),WcO];refine (zeP (λw hw=>hs.ow w (List.mem_filter.1 hw).1) (Nat.le_trans (Wdd _ _) (by omega)) g1 (gV s.tk) (by omega) _ L 0 _ (by have:=Wdd (λw:OwT=>w.sp==0) s.ow; omega) (by omega) (by omega)).trans ?_;rw [WcP,List.filter_filter,oS,cJ];have:(λw:OwT=>jM N w.aA&&w.sp==0)=λw=>w.sp==0&&jM (o4 (gV s.tk) s.tk) w.aA:=by
   funext w; rw [g2,Bool.and_comm]
  rw [this]; rfl
end
section
variable {l:List (List Int)}{L:Nat}{s:ScT}
variable {Y:Type}
theorem zag(L:Nat)(hl:∀ b∈l,dG b)(hn:l.length<=1000000)(kr:Bool->Option Y)(kx:Option Y):∀ (n i:Nat),l.length-i<n ->
  lC L kr kx n (dS l) (dS l) (l.length:Int) (i:Int)=kx:=by
 intro n
 induction n with
 | zero=>intro i h1; omega
 | succ n ih=>
  intro i h1;by_cases h:i<l.length
  ·have hb:=hl _ (WaV h);have hc:∀ {Y:Type} (k:Ls->Option Y),cL 1 [V.sl 1 (eA .u8 l[i])] 0 k=k (eA .u8 l[i]):=λk=>rm rfl k;rw [lC,pm,du (by omega),fe (Jz h),hc,pX,fe (Jz h),hc,pX,VN hb hb,decide_eq_true rfl,WcR,eD,cJ,up (by omega),ih (i+1) (by omega)]
  ·rw [lC,pm,dt (by omega)]
theorem YB(hL:2000000<=L)(hl:∀ b∈l,dG b)(hn:l.length<=1000000)(k:Bool->Option Y):dm Y L (dS l) (dS l) k=k true:=by
 simp only [dm,yR,C0];rw [iN,if_pos rfl,w6];exact (zag L hl hn _ _ L 0 (by omega)).trans rfl
theorem zhG(x:Int):dG (le4 x):=by
 intro n hn;simp only [le4,List.mem_cons,List.not_mem_nil,or_false] at hn;rcases hn with rfl | rfl | rfl | rfl <;> exact E5 _
theorem zf4(hs:ScOk s):(∀ b∈Qo s,dG b)/\(Qo s).length<=10000:=by
 obtain ⟨d1,d2⟩:=QL hs (gV s.tk);have hol:=hs.ol;refine ⟨λb hb=>?_,?_⟩
 ·rcases Wbt.1 hb with h | h
  ·exact d1 b h
  ·obtain ⟨w,hw,rfl⟩:=WbX.1 h;have hw:=hs.ow w (List.mem_filter.1 hw).1;intro n hn;rcases Wbt.1 hn with h | h
   ·exact hw.hb n h
   ·exact zhG _ n h
 ·have:=Wdd (λw:OwT=>w.sp==0&&jM (o4 (gV s.tk) s.tk) w.aA) s.ow;simp only [Qo,List.length_append,WcO]; omega
theorem zdb(hs:ScOk s){b:List V}(hb:Rp b s)(hL:20000000<=L){ts:List Int}(hts:ts.length<=1000)(kr:Bool->Ls->Int->Option Y)(kx:List V->Ls->Int->Option Y)(p:Ls)(q:Int):∀ (n i:Nat),ts.length-i<n ->
  iR dv dF dh dn dg dw cr dm bN bO L kr kx n (eA .i64 ts) (ts.length:Int) (i:Int) b p q=kx b p q:=by
 obtain ⟨n1,n2⟩:=zf4 hs;intro n
 induction n with
 | zero=>intro i h1; omega
 | succ n ih=>
  intro i h1;by_cases h:i<ts.length
  ·rw [iR,lK,du (by omega),fe (VW _ h),eQ (by rfl),hb.c,hb.d,DN hs _ hL];cases hc:decide (s.tk.length=0)||decide (gV s.tk>=ts[i]) with
   | true=>
    rw [gZ,hb.c,Ly hs _ hL,hc,gZ,iN,if_pos rfl,show (!((false:Bool)==false))=false from rfl,eD,show ([]:Ls)=dS [] from rfl,YB (by omega) (by simp) (by simp),WcR,eD,cJ,up (by omega),ih (i+1) (by omega)]
   | false=>
    rw [eD,hb.c,Ly hs _ hL,hc,eD,iN,if_pos rfl,show (!((true:Bool)==true))=false from rfl,eD,YB (by omega) n1 (by omega),WcR,eD,cJ,up (by omega),ih (i+1) (by omega)]
  ·rw [iR,lK,dt (by omega)]
theorem R9(a0:Ls)(a1:Int)(hl0:a0.length<=maxLen)(wf0:∀ e∈a0,HasRow [.int .i64] e)(wf1:(Lit.int .i64 a1).wf=true):∃ L,∀ k:Bool->Option Bool,jN Bool L a0 a1 k=k true:=by
 obtain ⟨l,rfl,_⟩:=XU wf0
 let d:Dec:=⟨l,0,by omega,by omega,by
  rw [jk] at hl0; have:maxLen<=9223372036854775807:=by decide
  omega⟩
 obtain ⟨w,bs,d1,hw,L1,h1⟩:=zcU d;obtain ⟨b,s,d2,hs,hb,L2,h2⟩:=zfg hw d1;obtain ⟨r,_,_,h3⟩:=Ye a1 8 (by omega) (by omega);refine ⟨20000000+L1+L2,λk=>?_⟩;generalize hL:20000000+L1+L2=L;simp only [jN,qJ,wC,dF,Ix,dv];rw [bT (by omega),show dh Bool L 6 (eA .i64 l) 0=dh Bool L 6 d.es d.a from rfl,h1 L (by omega),hw.d,h2 L (by omega),bT ⟨hb.l,by omega⟩,j9 (by rw [hb.l]; rfl),cJ,h3];refine (zdb (Y:=Bool) hs hb (by omega) (ts:=[a1,r]) (by simp) _ _ _ _ L 0 (by simp; omega)).trans ?_;rw [nl,hb.c,hb.d,FK (by omega) (by have:=hs.tl; omega) (λt ht=>(hs.tk t ht).r.1),hb.c,xn (by omega) (by have:=hs.tl; omega)];simp
end
section
theorem gX{a b:Bool}(ha:a=true)(hb:b=true):(a&&b)=true:=by rw [ha,hb]; rfl
theorem zeu:laidOutB Tryz.prog=true:=by kernel_rfl
theorem ze5:mapsRowed Tryz.prog=true:=by kernel_rfl
theorem zdB:(Tryz.prog.stops==[])=true:=by kernel_rfl
theorem zcM:(Tryz.prog.stopKnobs==[])=true:=by kernel_rfl
theorem zcL:Tryz.prog.stopsHeard=true:=by kernel_rfl
theorem zcD:Tryz.prog.mayEnter=true:=by kernel_rfl
theorem zcr:(false==Tryz.prog.liftsFinal)=true:=by kernel_rfl
theorem zfe:(true==Tryz.prog.plainKeys)=true:=by kernel_rfl
end
section
def ov0:List (Nat × (Nat->Dk)):=[]
theorem zg6:zaa (cN rows) 0 ov0:=zfC
end
section
noncomputable section
theorem Wf(Y:Type)(n:Nat)(k:KK Y):SR (cN rows) (ovF ov0 (n+30000)) (n+30000) 40 Y 813 [] [] k=k (.sc (.bool true)) []:=by kernel_rfl
theorem Tm(L:Nat):FOk (cN rows) L 813 (JN dv L) 40:=zeA zg6 L 40 813 (zel (X:=λL Y a b k=>SR (cN rows) (ovF ov0 L) L 40 Y 813 a b k) Wf L)
theorem K9(L:Nat):FOk (cN rows) L 811 (wK jN L) 402:=eG (D:=401) (by kernel_rfl) λm hm=>⟨ii,ic dv dF dh dn dg dw cr dm bN bO L,(cU (cU (cU (cU (cU (cU (cU (cU (cU (cU ep (Tm L m (by omega))) (Vs L m (by omega))) (SL L m (by omega))) (Sf L m (by omega))) (Js L m (by omega))) (Uv L m (by omega))) (Gx L m (by omega))) (SO L m (by omega))) (wO L m (by omega))) (pa L m (by omega))),Jj L⟩
end
end
section
namespace scanNextL
open Go.ChangeShapes Go.WideShapes Go.ChangeAt Go.RowKit
theorem own:ownKnob Tryz.prog.godebug=none:=by kernel_rfl
theorem X7:laidOutB Tryz.prog=true:=by kernel_rfl
set_option maxRecDepth 100000 in
theorem zgc(os:Os)(started:os.Started)(H:Type)(enc:TypeId × Value->H) :
  ReturnsInHanded {} Tryz.checked os 4 .any (Rows.scanNextSpec.pre6 enc Tryz.prog Tryz.f4 Rows.scanNextRow.domain false) (Rows.scanNextSpec.post enc Tryz.prog Tryz.f4 false true false false):=by
 refine returnsInHanded_of_change (C:=Tryz.checked) own started (by kernel_rfl) Tryz.func4
  (ChangeSpec.witness6 (enc:=enc) (C:=Tryz.checked) false ⟨#[],#[.slice none 0 0,.int .i64 0],[]⟩ 8 (by kernel_rfl) (by kernel_rfl) (by kernel_rfl) (by kernel_rfl)) ?_
 intro c9 base args ds gs before hval0 hW hcnd _;have hval:∀ (j:Nat) t v,Tryz.f4.params[j]?=some t->args[j]?=some v->Value.okWide Tryz.prog c9 .any base t v:=hval0;have hW':=hW;obtain ⟨p,q,hA0,hV,rfl,hfz,hnd⟩:=hW;have hA:DataW.TrodAll enc Tryz.prog c9 0 (λ_=>true) true Tryz.f4.params.toList args.toList ds p:=hA0;rw [Tryz.params4] at hA hval;obtain ⟨v0,vs0,d0,ds0,p0,q0,hargs,rfl,rfl,h0,r0⟩:=trodAll_cons hA;obtain ⟨v1,vs1,d1,ds1,p1,q1,rfl,rfl,rfl,h1,r1⟩:=trodAll_cons r0;obtain ⟨rfl,rfl,rfl⟩:=trodAll_nil r1;obtain rfl:args=#[v0,v1]:=by cases args; simp_all
 obtain ⟨rfl,rfl⟩:=trodVars_none hV;have k0:=h0;have lt0:∀ x∈p0,x.block<c9.heap.size:=by obtain ⟨m,hm⟩:=k0; exact DataW.trod_lt m _ _ _ hm
 have k1:=h1;have lt1:∀ x∈p1,x.block<c9.heap.size:=by obtain ⟨m,hm⟩:=k1; exact DataW.trod_lt m _ _ _ hm
 obtain ⟨A0,len0,cap0,rfl⟩:=okWide_slice Tryz.underlying22 (hval 0 22 v0 rfl rfl);obtain ⟨x0,hx0,rp0⟩:=ze2 (r:=.any) (b0:=base) (aa:=jj fg gls) (d:=20) (ct:=.sl ([.int .i64])) rfl h0 (by kernel_rfl);obtain ⟨a0,rfl,hl0,wf0⟩:=hx0.aV;obtain ⟨a1,rfl,rfl,rfl,wf1⟩:=open_int Tryz.underlying3 (hval 1 3 v1 rfl rfl) h1;clear hA0 hval0;obtain ⟨L,hL⟩:=R9 a0 a1 hl0 wf0 wf1;have hd:wK jN L Bool [(V.sl 1 a0),(QQe a1)] [] LD=some true:=by
  show (aL 1 (V.sl 1 a0) λx0=>aI .i64 (QQe a1) λx1=>jN Bool L x0 x1 (λp=>LD (V.sc (.bool p)) []))=some true;rw [zhy,EZ];exact (hL (λp=>LD (V.sc (.bool p)) [])).trans rfl
 obtain ⟨v,b,hev,hk⟩:=K9 L 1000 (by decide) Bool [(V.sl 1 a0),(QQe a1)] [] LD true hd;have hv:=zaB hk;subst hv;refine (YU (us:=[.slice A0 len0 cap0,.int .i64 a1]) (w:=c9) (λ_ _ h=>by cases h) (zhD L 1000) (f:=4) (by kernel_rfl) rfl (λi x u hx hu=>?_) hev).mono λe W' ⟨he,bel0⟩=>?_
 ·match i,hx,hu with
  | 0,hx,hu=>cases hx; cases hu; exact rp0
  | 1,hx,hu=>cases hx; cases hu; exact .sc _ rfl
  | n+2,hx,hu=>simp at hx
 ·have bel:=Kept.below bel0;subst he;exact ⟨_,rfl,_,_,_,[],_,[],hW',trodAll_mk1 (shut_bool Tryz.underlying4 _),(trodAll_cons_mk (Below.trod X7 (by kernel_rfl) (of_decide_eq_true (by kernel_rfl)) k0 bel lt0) (trodAll_cons_mk (Below.trod X7 (by kernel_rfl) (of_decide_eq_true (by kernel_rfl)) k1 bel lt1) trodAll_mk0)),rfl,bel.frame _,λh=>by cases h⟩
theorem zhn:(Rows.scanNextRow.wf (OpenSpec.ofChange Rows.scanNextSpec))=true:=by kernel_rfl
theorem zhz:(Tryz.f4.params.all (Tryz.prog.readableRec ·))=true:=by kernel_rfl
theorem zhB:(namedTie Tryz.prog Rows.scanNextRow.named Rows.scanNextSpec.vars)=true:=by kernel_rfl
theorem zhK:((Rows.scanNextRow.stops==[]))=true:=by kernel_rfl
theorem zhA:((Rows.scanNextRow.knobs==[]))=true:=by kernel_rfl
theorem zhu:((Rows.scanNextRow.inPlace==Tryz.prog.inPlace 4))=true:=by kernel_rfl
theorem zf7:((Rows.scanNextRow.unfollowed==Tryz.prog.unfollowed 4))=true:=by kernel_rfl
theorem zf8:((Rows.scanNextRow.recurses==Tryz.prog.recurses 4))=true:=by kernel_rfl
theorem zgI:((Rows.scanNextRow.named==Tryz.prog.varsNamed 4))=true:=by kernel_rfl
theorem zfP:((Rows.scanNextRow.maps==(Tryz.f4.params.toList++Rows.scanNextSpec.plain.varTypes Tryz.prog).any (Tryz.prog.mapsRec ·)))=true:=by kernel_rfl
theorem zgK:((Rows.scanNextRow.ifaces==(Tryz.f4.params.toList++Rows.scanNextSpec.plain.varTypes Tryz.prog).any (Tryz.prog.ifacesRec ·)))=true:=by kernel_rfl
theorem zhb:((Rows.scanNextRow.mapsOut==Tryz.prog.mapsAmong Tryz.f4.resultTypes.toList))=true:=by kernel_rfl
theorem zgT:((Rows.scanNextRow.loops==(Tryz.f4.params.toList++Rows.scanNextSpec.plain.varTypes Tryz.prog).any (Tryz.prog.loopsFrom ·)))=true:=by kernel_rfl
theorem zfD:((Rows.scanNextRow.wideKeys==(Tryz.f4.params.toList++Rows.scanNextSpec.plain.varTypes Tryz.prog++Tryz.f4.resultTypes.toList).any (Tryz.prog.wideKeysFrom ·)))=true:=by kernel_rfl
theorem zha:(Rows.scanNextSpec.vars.all (Tryz.prog.varReadable ·))=true:=by kernel_rfl
theorem zhf:(Tryz.f4.resultTypes.all (λt=>Tryz.prog.readableRec t&&decide (t<Tryz.prog.types.size)))=true:=by kernel_rfl
theorem zgl:((Rows.scanNextRow.ifacesOut==Tryz.f4.resultTypes.toList.any (Tryz.prog.ifacesRec ·)))=true:=by kernel_rfl
theorem zgh:((Rows.scanNextRow.loopsOut==Tryz.f4.resultTypes.toList.any (Tryz.prog.loopsFrom ·)))=true:=by kernel_rfl
theorem zg9:(Rows.scanNextRow.shortTexts.isNone)=true:=by kernel_rfl
theorem zf3:((Tryz.prog.make==some Rows.scanNextRow.make))=true:=by kernel_rfl
theorem zfJ:((Rows.scanNextRow.kinds==(if Rows.scanNextRow.domain.isEmpty then [] else Tryz.f4.params.toList.map λt=>match Tryz.prog.underlying t with | some (.int k)=>some k | _=>none)))=true:=by kernel_rfl
theorem zfE:((Rows.scanNextRow.pinned==Rows.scanNextRow.pinnedBy))=true:=by kernel_rfl
theorem zgx:((Rows.scanNextRow.veiled==(Tryz.f4.params.toList++Rows.scanNextSpec.plain.varTypes Tryz.prog++Tryz.f4.resultTypes.toList).any (Tryz.prog.veiledRec ·)))=true:=by kernel_rfl
theorem zgs:(Rows.scanNextRow.veiledFits Tryz.prog Tryz.f4.params.toList (Tryz.f4.params.toList++Rows.scanNextSpec.plain.varTypes Tryz.prog++Tryz.f4.resultTypes.toList))=true:=by kernel_rfl
theorem zg0:joinedFacts Tryz.prog 4 Tryz.f4 Rows.scanNextSpec Rows.scanNextRow=true:=by
 unfold joinedFacts;exact (gX (gX (gX (gX (gX (gX (gX (gX (gX (gX (gX (gX (gX (gX (gX (gX (gX (gX (gX (gX (gX (gX (gX (gX (gX (gX (gX (gX (gX (gX (gX zhn zeu) ze5) zhz) zhB) zhK) zdB) zhA) zcM) zhu) zf7) zf8) zgI) zfP) zgK) zhb) zgT) zfD) zha) zhf) zgl) zgh) zfe) zg9) zcL) zcD) zcr) zf3) zfJ) zfE) zgx) zgs)
theorem inst:Tryz.f4.isInstance Tryz.prog Rows.scanNextRow.origin Rows.scanNextRow.targs:=of_decide_eq_true (by kernel_rfl)
theorem cE:Tryz.f4.isWrapper Tryz.prog Rows.scanNextRow.wrapper Rows.scanNextRow.mainSum:=by
 unfold Func.isWrapper
 first | (rw [if_pos (by decide +kernel)]; kernel_rfl) | (rw [if_neg (by decide +kernel)]; exact ⟨rfl,rfl⟩)
theorem lT:Tryz.prog.funcNamed Rows.scanNextRow.func=some 4:=by kernel_rfl
theorem over:Rows.scanNextRow.holds Tryz.pinned (OpenSpec.ofChange Rows.scanNextSpec):=
 OpenClaim.holds_of_wide 4 Tryz.f4 rfl rfl rfl rfl rfl rfl rfl ⟨rfl,rfl,rfl,rfl,rfl⟩ rfl rfl rfl rfl rfl lT Tryz.func4 zg0 inst cE
  (λos started H enc _=>zgc os started H enc)
end scanNextL
theorem scanNext_holds:Rows.ScanNextSaid:=scanNextL.over
end
end Go.Proofs.YtipklgbboecciaaGreat
