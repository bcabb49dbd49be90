/- ScanNext: for every input the call returns true, and each argument reads afterwards as it read before. No condition. -/
import Derived.Test.YtipklgbboecciaaGreatRows
import Derived.JoinedOf
import Derived.Test.YtipklgbboecciaaGreatMScanNext14
namespace Go.Proofs.YtipklgbboecciaaGreat
set_option maxRecDepth 100000
set_option linter.unusedVariables false
set_option linter.unusedSimpArgs false
open IntKind renaming wrap->Wbf
open List renaming drop_eq_getElem_cons->WaM,getElem_mem->WaV,length_map->WcO,drop_of_length_le->WaD,take_of_length_le->WbR,append_assoc->WcG,length_filter_le->Wdg,mem_append->Wbt,drop_zero->WcP,getElem?_eq_getElem->Wac,filter_cons->Wdi,mem_cons_of_mem->WcB,map_cons->WbD,mem_singleton->WcF,mem_cons_self->Wcy,mem_map->WbX
open Bool renaming false_or->Wdh,or_eq_false_iff->Wdj,not_true->WcR
section
variable {s:ScT}{L:Nat}
variable {Y:Type}
structure Dec where
 l:List Int
 a:Int
 h0:0<=a
 h1:a<=l.length
 hl:l.length<=9223372036854775807
def Dec.es(d:Dec):Ls:=eB .i64 d.l
theorem um(d:Dec)(n:Int)(hn:1<=n)(hn2:n<=1000000000000):∃ (r:Int) (d':Dec),0<=r/\r<n/\∀ (L:Nat) (Y:Type) (k:Int->Ls->Int->Option Y),bR Y L n d.es d.a k=k r d'.es d'.a:=by
 obtain ⟨l,a,h0,h1,hl⟩:=d;simp only [Dec.es];by_cases h:a<l.length
 ·obtain ⟨i,rfl⟩:∃ i:Nat,a=i:=⟨a.toNat,by omega⟩;have hi:i<l.length:=by omega
  obtain ⟨r,q1,q2,q3⟩:=XO l[i] n hn hn2;refine ⟨r,⟨l,i+1,by omega,by omega,hl⟩,q1,q2,λL Y k=>?_⟩;simp only [bR,qv,fj,qh,cH,jj];have w1:Wbf .i64 ((i:Int)+1)=(i:Int)+1:=kI (by omega) (by omega);have w2:Wbf .i64 ((i:Int)+1-1)=(i:Int):=by rw [kI (by omega) (by omega)]; omega
  rw [Ws,if_pos (by omega),w1,w2,fe (Wh _ hi),eQ (by rfl),q3]
 ·refine ⟨0,⟨l,a,h0,h1,hl⟩,by omega,by omega,λL Y k=>?_⟩;simp only [bR,qv,fj,qh,cH,jj];rw [Ws,if_neg (by omega)]
theorem EP(n:Int):0<=Wbf .u8 n/\Wbf .u8 n<=255:=Ho .u8 n
theorem Q6:∀ (m:Nat) (acc:List Int) (d:Dec),dG acc->acc.length+m<=1000->∃ (l:List Int) (d':Dec),dG l/\l.length=acc.length+m/\∀ (L n:Nat),m<n->∀ (Y:Type) (kx:Ls->Ls->Int->Option Y),
  jd bR L kx n (eB .u8 acc) (m:Int) d.es d.a=kx (eB .u8 l) d'.es d'.a
 | 0,acc,d,ha,hn=>⟨acc,d,ha,rfl,λL n hn Y kx=>by
  obtain ⟨n,rfl⟩:∃ k,n=k+1:=⟨n-1,by omega⟩;rw [jd,me,dt (by omega)]⟩
 | m+1,acc,d,ha,hn=>by
  obtain ⟨r,d1,_,_,h1⟩:=um d 256 (by omega) (by omega);have hb:dG (acc++[Wbf .u8 r]):=λx hx=>by
   rcases Wbt.1 hx with h | h
   ·exact ha x h
   ·rw [WcF.1 h]; exact EP r
  obtain ⟨l,d2,g1,g2,g3⟩:=Q6 m (acc++[Wbf .u8 r]) d1 hb (by simp; omega);refine ⟨l,d2,g1,by rw [g2]; simp; omega,λL n hn Y kx=>?_⟩;obtain ⟨n,rfl⟩:∃ k,n=k+1:=⟨n-1,by omega⟩;have e1:Wbf .i64 (((m+1:Nat):Int)-1)=(m:Int):=by rw [kI (by omega) (by omega)]; omega
  have e2:cz 1 1 [(QQa (Wbf .u8 r))]=eB .u8 [Wbf .u8 r]:=rfl;rw [jd,me,du (by omega),h1,cH,e2,C5,bT (by simp only [jj,cy,List.length_cons,List.length_nil]; omega),cH,e1,cH,g3 L n (by omega)]
theorem zcl(d:Dec):∃ (l:List Int) (d':Dec),dG l/\l.length<=6/\∀ (L:Nat),100<=L->∀ (Y:Type) (k:Ls->Ls->Int->Option Y),eZ Y L 6 d.es d.a k=k (eB .u8 l) d'.es d'.a:=by
 obtain ⟨r,d1,r0,r1,h1⟩:=um d 7 (by omega) (by omega);obtain ⟨m,rfl⟩:∃ m:Nat,r=(m:Int):=⟨r.toNat,by omega⟩;obtain ⟨l,d2,g1,g2,g3⟩:=Q6 m [] d1 (by simp [dG]) (by simp; omega);refine ⟨l,d2,g1,by simp at g2; omega,λL hL Y k=>?_⟩;simp only [eZ,pa,uW,cH];rw [show Wbf .i64 ((6:Int)+1)=7 from rfl,h1];exact (g3 L L (by omega) Y _).trans rfl
structure WoOk (w:List V) (bs:Ls):Prop where
 l:w.length=84
 d:w.map V.ag=w
 at80:w[80]?=some (V.sl 69 bs)
 n:bs.length<=6
 b:∀ b∈bs,∀ N W,GL N W tN b
theorem zcH{w:List V}(h:∀ N W,GL N W (s8++[.ai 0 69 0 6 tN,.ai 0 34 1 7 sX,.ai 0 36 1 7 ER,.ai 0 1 0 6 Kj]) w):∃ bs,WoOk w bs:=by
 have hl:w.length=84:=(h 0 (λ_=>0)).1.symm;have h80:w[80]?=some w[80]:=Wac (by omega);have hg:∀ N W,G N W (.ai 0 69 0 6 tN) w[80]:=λN W=>(h N W).2 80 _ _ rfl h80;obtain ⟨bs,e,_,h2,h3⟩:=Jv (by omega) hg;exact ⟨bs,hl,Hl (by rfl) (h 0 (λ_=>0)),by rw [h80,e]; rfl,by omega,h3⟩
theorem zc3(d:Dec):∃ (w:List V) (bs:Ls) (d':Dec),WoOk w bs/\Fin2 λL=>∀ (Y:Type) (k:List V->Ls->Int->Option Y),dh Y L 6 d.es d.a k=k w d'.es d'.a:=by
 obtain ⟨r,d1,r0,r1,h1⟩:=um d 256 (by omega) (by omega);obtain ⟨l,d2,g1,g2,g3⟩:=zcl d1;obtain ⟨v,g,L0,h⟩:=vM (cJ (D':=400) (by decide) ZJ) (ws:=[.sc (.int .u8 (Wbf .u8 r)),.sl 1 (eB .u8 l)]) (λN W=>.cons (.iv .u8 _ _ _ (EP r)) (gl1 (N8 (q:=0) (by simp) (by rw [jj]; omega) (λx hx=>by
  obtain ⟨n,hn,rfl⟩:=WbX.1 hx;exact gl1 (.iv .u8 _ _ n (g1 n hn))))))
 obtain ⟨w,rfl,_⟩:=CL (g 0 (λ_=>0));have hw:∀ N W,GL N W (s8++[.ai 0 69 0 6 tN,.ai 0 34 1 7 sX,.ai 0 36 1 7 ER,.ai 0 1 0 6 Kj]) w:=λN W=>by
  obtain ⟨_,e,h⟩:=CL (g N W); cases e; exact h
 obtain ⟨bs,hbs⟩:=zcH hw;refine ⟨w,bs,d2,hbs,L0+100,λL hL Y k=>?_⟩;have hc:∀ (k:List V->Option Y),gE Y L (Wbf .u8 r) (eB .u8 l) k=k w:=λk=>(h L (by omega) Y _).trans (ZV _ _);simp only [dh,Dt];rw [h1,cH,g3 L (by omega),hc,bT ⟨hbs.l,by omega⟩,j8 (by rw [hbs.l]; rfl),cH,bT ⟨trivial,hbs.l,by decide⟩]
def P4(s:ScT):List (List Int):=oO (g8 s.tk) s.tk++(s.ow.filter λw=>w.sp==0&&jN (oO (g8 s.tk) s.tk) w.aA).map Gm
theorem Z3(l m:List (List Int)):List.take l.length (dU (l++m))=dU l:=by simp [dU]
theorem zaJ(hs:ScOk s){due:List (List Int)}(hd:∀ b∈due,dG b)(hdn:due.length<=1000)(hL:20000000<=L)(kx:Ls->List V->Option Y):∀ (n i:Nat) (acc:List (List Int)),i<=s.ow.length->s.ow.length-i<n->acc.length<=i ->
  ki bO cZ bM dp L kx n (dU (due++acc)) (due.length:Int) (i:Int) (fE s)=kx (dU (due++(acc++((s.ow.drop i).filter λw=>w.sp==0&&jN due w.aA).map Gm))) (fE s):=by
 have hol:=hs.ol;intro n
 induction n with
 | zero=>intro i acc h1 h2; omega
 | succ n ih=>
  intro i acc h1 h2 h3;by_cases h:i<s.ow.length
  ·have hw:=hs.ow _ (WaV h);have h37:(List.drop 37 (dC s.ow[i]))[0]?=some (QQe s.ow[i].sp):=by rw [List.getElem?_drop]; exact kg hw.hl 4
   have hsc:(List.drop 1 (List.drop 33 (dC s.ow[i])))[0]?=some (V.sl 1 (eB .u8 s.ow[i].aA)):=by rw [TN hw.hl]; rfl
   have hj:0<=(due.length:Int)/\(due.length:Int)<=(((dU (due++acc)).length:Nat):Int):=by rw [wT]; simp; omega
   rw [ki,nW,s_1,WcO,du (by omega),s_1,fe (fo h),eQ h37,bT hj,s_1,fe (fo h),ro hsc,Int.toNat_natCast,Nat.sub_zero,WcP,Z3,Xa hL (by omega) hd hw.s,s_1,fe (fo h),pZ hw.hl,zci (by omega) hw.hl,EN,Et (by simp; omega),EM,cH,cH];simp only [cH,up (show i<=1000000000 by omega)];rw [WcG,ih (i+1) (acc++[Gm s.ow[i]]) (by omega) (by omega) (by simp; omega),ih (i+1) acc (by omega) (by omega) (by omega),WaM h,Wdi];by_cases c1:s.ow[i].sp=0
   ·rw [fd c1];cases c2:jN due s.ow[i].aA with
    | true=>
     rw [gY,if_pos (by simp [c1]),WbD,WcG]; rfl
    | false=>rw [eD,if_neg (by simp)]
   ·rw [eA c1,if_neg (by simp [c1])]
  ·rw [ki,nW,s_1,WcO,dt (by omega),WaD (by omega)];simp
theorem LD(hs:ScOk s)(tip:Int)(hL:20000000<=L)(k:Int->Ls->Bool->Option Y):cr Y L (fE s) tip k =
  ifb (decide (s.tk.length=0)||decide (g8 s.tk>=tip)) (k 0 [] false) (k (Wbf .i64 (g8 s.tk+1)) (dU (P4 s)) true):=by
 have htl:=hs.tl;obtain ⟨d1,d2⟩:=QB hs (g8 s.tk);simp only [cr,yK,C9,s_c,s_d];rw [s_0,WcO,yJ (by omega) (by omega),K8 (by omega) (by omega)];by_cases c1:s.tk.length=0
 ·rw [fd (by omega),decide_eq_true c1]; rfl
 ·rw [eA (by omega),decide_eq_false c1,Wdh];refine congrArg _ ?_;have:=zaJ (Y:=Y) hs d1 d2 hL (λp7 b2=>mL bO cZ bM dp L p7 b2 k) L 0 [] (by omega) (by have:=hs.ol; omega) (by simp);rw [List.append_nil,List.nil_append,WcP] at this;rw [wT];refine this.trans ?_;rw [mL,s_c,s_d,yJ (by omega) (by omega),cH];rfl
end
section
variable {b:List V}{s:ScT}
variable {Y:Type}
def zsc:List V:=[(V.gs 3 ([]:Ls)),(V.gs 38 ([]:Ls))]
def Rp(b:List V)(s:ScT):Prop:=b=fE s∨(b=zsc/\s=⟨[],[]⟩)
theorem Rp.d(h:Rp b s):List.map V.ag (List.take 2 b)=fE s:=by
 rcases h with rfl | ⟨rfl,rfl⟩ <;> rfl
theorem Rp.c(h:Rp b s)(k:Option Y):chk (0+2<=(List.length b)) k=k:=by
 rcases h with rfl | ⟨rfl,rfl⟩ <;> exact bT (Nat.le_refl 2) k
theorem Rp.l(h:Rp b s):b.length=2:=by
 rcases h with rfl | ⟨rfl,rfl⟩ <;> rfl
theorem Rp.set(h:Rp b s)(s':ScT):cD b 0 (fE s')=fE s':=j8 (by rw [h.l]; rfl)
theorem Wm(s:ScT):cD [(V.gs 3 ([]:Ls)),(V.gs 38 ([]:Ls))] 0 (fE s)=fE s:=rfl
theorem TI(L:Nat)(x:Int)(k:Ls->Option Y):dk Y L x k=k (eB .u8 [1,1,Wbf .u8 (1+Int.tmod x 6),5]):=by
 simp only [dk,BI,cH]; rfl
theorem zdu(x:Int):dG [1,1,Wbf .u8 (1+Int.tmod x 6),5]:=by
 intro n hn;simp only [List.mem_cons,List.not_mem_nil,or_false] at hn;have:=EP (1+Int.tmod x 6);rcases hn with rfl | rfl | rfl | rfl <;> omega
theorem Om{m:Nat}(h:m<=1000):Wbf .i64 (((m+1:Nat):Int)-1)=(m:Int):=by rw [kI (by omega) (by omega)]; omega
theorem Ug{w:List V}{bs:Ls}(hw:WoOk w bs):∀ (m:Nat),m<=100->∀ (d:Dec) (b:List V) (s:ScT),ScOk s->Rp b s->∃ (b':List V) (s':ScT) (d':Dec),ScOk s'/\Rp b' s'/\Fin2 λL=>∀ (n:Nat),m<n->∀ (Y:Type) (kx:uz Y) (p q:Ls),
  fG bR dk dz cS cr cY L kx n (m:Int) d.es d.a w p q b=kx d'.es d'.a p q b'
 | 0,_,d,b,s,hs,hb=>⟨b,s,d,hs,hb,0,λL _ n hn Y kx p q=>by
  obtain ⟨n,rfl⟩:∃ k,n=k+1:=⟨n-1,by omega⟩;rw [fG,ii,dt (by omega)]⟩
 | m+1,hm,d,b,s,hs,hb=>by
  have step:∃ (b1:List V) (s1:ScT) (d1:Dec),ScOk s1/\Rp b1 s1/\Fin2 λL=>∀ (n:Nat) (Y:Type) (kx:uz Y) (p q:Ls),
    fG bR dk dz cS cr cY L kx (n+1) ((m+1:Nat):Int) d.es d.a w p q b=fG bR dk dz cS cr cY L kx n (m:Int) d1.es d1.a w p q b1:=by
   obtain ⟨r,d1,r0,r1,h1⟩:=um d 4 (by omega) (by omega);have h80:∀ {Y:Type} (k:Ls->Option Y),cLd 69 w 80 k=k bs:=λk=>j3 hw.at80 k;have hbn:=hw.n;by_cases c0:r=0
   ·obtain ⟨r2,d2,_,_,h2⟩:=um d1 6 (by omega) (by omega);obtain ⟨r3,d3,_,_,h3⟩:=um d2 3 (by omega) (by omega);obtain ⟨s1,e,hs1,h4⟩:=zfF hs (zdu (Wbf .u8 r2)) (by simp) (Wbf .i64 (1+r3));by_cases he:e=0
    ·refine ⟨fE s1,s1,d3,hs1,.inl rfl,2000000,λL hL n Y kx p q=>?_⟩;rw [fG,ii,du (by omega),h1,fd c0,hb.c,h2,cH,TI,h3,cH,hb.d,h4 L hL,bT ⟨rfl,by omega⟩,Wm,cH,fd he,s_c,Ub,bT ⟨rfl,by rw [hb.l]; omega⟩,hb.set,cH,Om (by omega),cH]
    ·refine ⟨b,s,d3,hs,hb,2000000,λL hL n Y kx p q=>?_⟩;rw [fG,ii,du (by omega),h1,fd c0,hb.c,h2,cH,TI,h3,cH,hb.d,h4 L hL,bT ⟨rfl,by omega⟩,Wm,cH,eA he,Om (by omega),cH]
   by_cases c1:r=1
   ·have e22:Wbf .i64 (((bs.length:Nat):Int)+1)=((bs.length+1:Nat):Int):=up (by omega);obtain ⟨r2,d2,_,_,h2⟩:=um d1 ((bs.length+1:Nat):Int) (by omega) (by omega);obtain ⟨s1,e,hs1,h4⟩:=zfY hs r2;by_cases he:e=0
    ·obtain ⟨r3,d3,_,_,h3⟩:=um d2 4 (by omega) (by omega);by_cases c3:r3=0
     ·refine ⟨fE s1,s1,d3,hs1,.inl rfl,2000000,λL hL n Y kx p q=>?_⟩;rw [fG,ii,du (by omega),h1,eA c0,fd c1,hb.c,h80,e22,cH,h2,hb.d,h4 L hL,bT ⟨rfl,by omega⟩,Wm,cH,fd he,h3,fd c3,s_c,Ub,bT ⟨rfl,by rw [hb.l]; omega⟩,hb.set,cH,Om (by omega),cH]
     ·refine ⟨b,s,d3,hs,hb,2000000,λL hL n Y kx p q=>?_⟩;rw [fG,ii,du (by omega),h1,eA c0,fd c1,hb.c,h80,e22,cH,h2,hb.d,h4 L hL,bT ⟨rfl,by omega⟩,Wm,cH,fd he,h3,eA c3,Om (by omega),cH]
    ·refine ⟨b,s,d2,hs,hb,2000000,λL hL n Y kx p q=>?_⟩;rw [fG,ii,du (by omega),h1,eA c0,fd c1,hb.c,h80,e22,cH,h2,hb.d,h4 L hL,bT ⟨rfl,by omega⟩,Wm,cH,eA he,Om (by omega),cH]
   ·cases cn:decide (s.tk.length=0)||decide (g8 s.tk>=((bs.length:Nat):Int)) with
    | true=>
     refine ⟨b,s,d1,hs,hb,20000000,λL hL n Y kx p q=>?_⟩;rw [fG,ii,du (by omega),h1,eA c0,eA c1,hb.c,h80,hb.d,LD hs _ hL,cn,gY,eD,Om (by omega),cH]
    | false=>
     simp only [Wdj,decide_eq_false_iff_not] at cn;have hr0:0<=g8 s.tk:=Vx s.tk (-1) (λt ht=>(hs.tk t ht).r.1) (.inr λe=>cn.1 (by rw [e]; rfl));obtain ⟨j,hj⟩:∃ j:Nat,g8 s.tk=(j:Int):=⟨(g8 s.tk).toNat,by omega⟩;have hjb:j<bs.length:=by omega
     have ej:Wbf .i64 (g8 s.tk+1)=((j+1:Nat):Int):=by rw [hj]; exact up (by omega)
     have ek:Wbf .i64 (((j+1:Nat):Int)-1)=(j:Int):=by rw [kI (by omega) (by omega)]; omega
     obtain ⟨s1,e,hs1,L1,h4⟩:=zdJ hs (x:=((j+1:Nat):Int)) (by omega) (hw.b _ (WaV hjb));have hbl:(bs[j]).length=69:=(hw.b _ (WaV hjb) 0 (λ_=>0)).1.symm;have hbd:(bs[j]).map V.ag=bs[j]:=Hl (by rfl) (hw.b _ (WaV hjb) 0 (λ_=>0));refine ⟨fE s1,s1,d1,hs1,.inl rfl,20000000+L1,λL hL n Y kx p q=>?_⟩;have cn':(decide (s.tk.length=0)||decide (g8 s.tk>=((bs.length:Nat):Int)))=false:=by
      simp only [Wdj,decide_eq_false_iff_not]; exact cn
     rw [fG,ii,du (by omega),h1,eA c0,eA c1,hb.c,h80,hb.d,LD hs _ (by omega),cn',eD,gY,hb.c,h80,ej,ek,cH,fe (Wac hjb),WbR (by omega),hbd,h4 L (by omega),bT ⟨rfl,by rw [hb.l]; omega⟩,hb.set,cH,Om (by omega),cH]
  obtain ⟨b1,s1,d1,hs1,hb1,L1,h1⟩:=step;obtain ⟨b2,s2,d2,hs2,hb2,L2,h2⟩:=Ug hw m (by omega) d1 b1 s1 hs1 hb1;refine ⟨b2,s2,d2,hs2,hb2,L1+L2,λL hL n hn Y kx p q=>?_⟩;obtain ⟨n,rfl⟩:∃ k,n=k+1:=⟨n-1,by omega⟩;rw [h1 L (by omega),h2 L (by omega) n (by omega)]
theorem zfr{w:List V}{bs:Ls}(hw:WoOk w bs)(d:Dec):∃ (b:List V) (s:ScT) (d':Dec),ScOk s/\Rp b s/\Fin2 λL=>∀ (Y:Type) (k:List V->Ls->Int->Option Y),dm Y L w d.es d.a k=k b d'.es d'.a:=by
 obtain ⟨r,d1,r0,r1,h1⟩:=um d 24 (by omega) (by omega);obtain ⟨m,rfl⟩:∃ m:Nat,r=(m:Int):=⟨r.toNat,by omega⟩;obtain ⟨b,s,d2,g1,g2,L1,g3⟩:=Ug hw m (by omega) d1 zsc ⟨[],[]⟩ qZ (.inr ⟨rfl,rfl⟩);refine ⟨b,s,d2,g1,g2,L1+200,λL hL Y k=>?_⟩;simp only [dm,yh,D5];rw [h1];refine (g3 L (by omega) L (by omega) Y _ _ _).trans ?_;rw [rK,g2.c,WbR (by rw [g2.l]; omega),bT ⟨g2.l,by omega⟩,j8 (by rw [g2.l]; rfl),cH,bT ⟨rfl,g2.l,by decide⟩]
end
section
variable {b:List Int}{N:List (List Int)}
variable {Y:Type}
def vk(N:List (List Int)):Lm:=N.map λb=>(sk b,.sc (.bool true))
theorem Kg(N:List (List Int))(b c:List Int):jN (b::N) c=(decide (b=c)||jN N c):=rfl
theorem Yj{b:List Int}(hb:dG b):∀ {N:List (List Int)},(∀ x∈N,dG x)->Cz (sk b) (vk N)=some (if jN N b then some (.sc (.bool true)) else none)
 | [],_=>rfl
 | x::N,h=>by
  have ih:=Yj hb (N:=N) λy hy=>h y (WcB _ hy);simp only [vk,WbD,Cz,Yl hb (h x (Wcy ..)),Kg] at ih ⊢;by_cases hx:b=x
  ·subst hx; simp
  ·have hx':¬ x=b:=λe=>hx e.symm;simp only [decide_eq_false hx,decide_eq_false hx',Wdh];exact ih
theorem zao{b:List Int}(hb:dG b):∀ {N:List (List Int)},(∀ x∈N,dG x)->OZ (sk b) (.sc (.bool true)) (vk N)=some (vk (if jN N b then N else N++[b]))
 | [],_=>rfl
 | x::N,h=>by
  have ih:=zao hb (N:=N) λy hy=>h y (WcB _ hy);simp only [vk,WbD,OZ,Yl hb (h x (Wcy ..)),Kg] at ih ⊢;by_cases hx:b=x
  ·subst hx; simp
  ·have hx':¬ x=b:=λe=>hx e.symm;simp only [decide_eq_false hx,decide_eq_false hx',Wdh];rw [ih];by_cases q:jN N b=true
   ·rw [if_pos q,if_pos q]; rfl
   ·rw [if_neg q,if_neg q]; rfl
theorem zhJ(hb:dG b)(hN:∀ x∈N,dG x)(k:Bool->Option Y):(mAt 1 (sk b) (vk N) λq=>aB (Option.getD q (V.sc (.bool false))) k)=k (jN N b):=by
 have h:qz 1 (sk b)=true:=rfl;simp only [mAt,h,Yj hb hN];cases jN N b <;> rfl
theorem zf1(hb:dG b)(hN:∀ x∈N,dG x)(k:Lm->Option Y):VN 1 (sk b) (V.sc (.bool true)) (vk N) k=k (vk (if jN N b then N else N++[b])):=by
 have h:qz 1 (sk b)=true:=rfl;simp only [VN,h,zao hb hN]
theorem zfl{L:Nat}(hb:dG b)(hN:∀ x∈N,dG x)(k:Bool->Lm->Option Y):cG Y L (eB .u8 b) (vk N) k=k (jN N b) (vk N):=by
 simp only [cG,DH,pX];exact zhJ hb hN λv=>k v (vk N)
theorem zdy(N:List (List Int))(b c:List Int):jN (if jN N b then N else N++[b]) c=(jN N c||decide (b=c)):=by
 cases h:jN N b with
 | false=>simp [jN,List.any_append]
 | true=>
  simp only [if_true];by_cases hx:b=c
  ·subst hx; rw [h]; rfl
  ·rw [decide_eq_false hx,Bool.or_false]
theorem Nq{l:List TkT}(hl:∀ t∈l,TkOk t)(hn:l.length<=1000000)(r:Int):∀ (m i:Nat) (N:List (List Int)),(∀ x∈N,dG x)->l.length-i=m->∃ N':List (List Int),(∀ x∈N',dG x)/\(∀ c,jN N' c=(jN N c||jN (oO r (l.drop i)) c))/\∀ (L n:Nat),m<n->∀ (Y:Type) (kx:Lm->Option Y),
  kK bN L kx n r (l.map jD) (l.length:Int) (i:Int) (vk N)=kx (vk N')
 | 0,i,N,hN,hi=>⟨N,hN,λc=>by rw [WaD (by omega)]; simp [oO,jN],λL n hn Y kx=>by
  obtain ⟨n,rfl⟩:∃ k,n=k+1:=⟨n-1,by omega⟩;rw [kK,nz,dt (by omega)]⟩
 | m+1,i,N,hN,hi=>by
  have h:i<l.length:=by omega
  have ht:=hl _ (WaV h);by_cases hr:l[i].r=r
  ·have hN2:∀ x∈(if jN N l[i].aA then N else N++[l[i].aA]),dG x:=λx hx=>by
    split at hx
    ·exact hN x hx
    ·rcases Wbt.1 hx with h | h
     ·exact hN x h
     ·rw [WcF.1 h]; exact ht.s
   obtain ⟨N',g1,g2,g3⟩:=Nq hl hn r m (i+1) _ hN2 (by omega);refine ⟨N',g1,λc=>?_,λL n hn Y kx=>?_⟩
   ·rw [g2,zdy,WaM h,EL,if_pos hr,Kg,Bool.or_assoc]
   ·obtain ⟨n,rfl⟩:∃ k,n=k+1:=⟨n-1,by omega⟩;rw [kK,nz,du (by omega),fe (fo h),k_c,QP,cH,W2,fd hr,Xb,pX];refine (zf1 ht.s hN _).trans ?_;rw [cH,up (by omega),g3 L n (by omega)]
  ·obtain ⟨N',g1,g2,g3⟩:=Nq hl hn r m (i+1) N hN (by omega);refine ⟨N',g1,λc=>?_,λL n hn Y kx=>?_⟩
   ·rw [g2,WaM h,EL,if_neg hr]
   ·obtain ⟨n,rfl⟩:∃ k,n=k+1:=⟨n-1,by omega⟩;rw [kK,nz,du (by omega),fe (fo h),k_c,QP,cH,W2,eA hr,cH,up (by omega),g3 L n (by omega)]
theorem zet{s:ScT}(hs:ScOk s):∃ N:List (List Int),(∀ x∈N,dG x)/\(∀ c,jN N c=jN (oO (g8 s.tk) s.tk) c)/\∀ (L:Nat),2000000<=L->∀ (Y:Type) (k:Lm->Option Y),cQ Y L (fE s) k=k (vk N):=by
 have htl:=hs.tl;obtain ⟨N,g1,g2,g3⟩:=Nq hs.tk (by omega) (g8 s.tk) _ 0 [] (by simp) rfl;refine ⟨N,g1,λc=>by rw [g2]; rfl,λL hL Y k=>?_⟩;simp only [cQ,Cv,Hv,s_c,s_d];rw [FI hL (by omega) (λt ht=>(hs.tk t ht).r.1),s_0,WcO];exact (g3 L L (by omega) Y _).trans rfl
end
section
variable {l:List OwT}{w:OwT}{L:Nat}{s:ScT}
variable {Y:Type}
theorem VW(L:Nat){l:List Int}(hl:l.length<=1000000)(k:Ls->Option Y):cq Y L (eB .u8 l) k=k (eB .u8 l):=by
 have hc:cz 1 (eB .u8 l).length (eB .u8 l).flatten=eB .u8 l:=AC λe he=>by
  obtain ⟨x,_,rfl⟩:=WbX.1 he; rfl
 simp only [cq,BC];cases l with
 | nil=>rfl
 | cons x l=>
  show chk _ (chk _ (k (cz 1 (eB .u8 (x::l)).length (eB .u8 (x::l)).flatten)))=_;rw [hc,bT (by
   show (0+(eB .u8 (x::l)).length)*1<=cy/\0+(eB .u8 (x::l)).length<=cy;rw [jj]; simp only [cy]; omega),bT (.inl (by simp))]
theorem zgh(w:OwT)(hl:w.h.length=32)(L:Nat)(k:List V->Option Y):cO Y L (crw w) k=cq Y L (eB .u8 w.aA) (λv=>k (gG w++[V.sc (.int .i64 w.val),V.sl 1 v,V.sc (.int .i64 w.ht),V.sc (.bool w.cb)])):=by
 obtain ⟨h,ix,val,s,ht,cb,sp⟩:=w
 match h,hl with
 | [x0,x1,x2,x3,x4,x5,x6,x7,x8,x9,x10,x11,x12,x13,x14,x15,x16,x17,x18,x19,x20,x21,x22,x23,x24,x25,x26,x27,x28,x29,x30,x31],_=>rfl
theorem zhx(hw:OwOk w)(L:Nat)(k:List V->Option Y):cO Y L (crw w) k=k (crw w):=by
 rw [zgh w hw.hl,VW L (by have:=hw.l; omega)]; rfl
theorem zfP(h:w.h.length=32):cD (List.replicate 32 (QQa (0:Int))++[(QQc (0:Int)),(QQe (0:Int)),(V.gs 1 ([]:Ls)),(QQe (0:Int)),(V.sc (.bool false))]) 0 (crw w)=crw w:=j8 (by rw [zC h]; rfl)
theorem zeW(h:w.h.length=32):cD (List.replicate 32 (QQa (0:Int))++[(QQc (0:Int)),(QQe (0:Int)),(V.sl 1 ([]:Ls)),(QQe (0:Int)),(V.sc (.bool false))]) 0 (crw w)=crw w:=j8 (by rw [zC h]; rfl)
theorem zgY(h:w.h.length=32):cz 37 1 (crw w)=[crw w]:=by
 simp only [cz]; rw [WbR (by rw [zC h]; omega)]
theorem zaQ(hl:∀ w∈l,OwOk w)(hn:l.length<=100000)(L:Nat)(kx:Ls->Option Y):∀ (n i:Nat) (acc:List OwT),l.length-i<n->acc.length<=i->i<=l.length ->
  j1 cO L kx n (acc.map crw) (l.map dC) (l.length:Int) (i:Int)=kx ((acc++(l.drop i).filter λw=>w.sp==0).map crw):=by
 intro n
 induction n with
 | zero=>intro i acc h1; omega
 | succ n ih=>
  intro i acc h1 h2 h3;by_cases h:i<l.length
  ·have hw:=hl _ (WaV h);rw [j1,mZ,du (by omega),fe (fo h),kJ hw.hl,bT ⟨fM hw.hl,by omega⟩,LT hw.hl,cH,eQ (kg hw.hl 4),WaM h,Wdi];by_cases c:l[i].sp=0
   ·have:=ih (i+1) (acc++[l[i]]) (by omega) (by simp; omega) (by omega);rw [List.map_append] at this;rw [fd c,bT (by rw [fM hw.hl]; omega),zgg hw.hl,zes,zhx hw,bT ⟨zC hw.hl,by omega⟩,zeW hw.hl,zgY hw.hl,bT (by simp [cy]; omega),cH,cH,up (by omega),if_pos (by simp [c])];refine this.trans ?_;rw [WcG]; rfl
   ·rw [eA c,cH,up (by omega),ih (i+1) acc (by omega) (by omega) (by omega),if_neg (by simp [c])]
  ·rw [j1,mZ,dt (by omega),WaD (by omega)]; simp
theorem YZ(hl:∀ w∈l,OwOk w)(hn:l.length<=100000)(hL:2000000<=L)(k:Ls->Option Y):cu Y L (l.map dC) k=k ((l.filter λw=>w.sp==0).map crw):=by
 simp only [cu,sv,yd,WcO];exact (zaQ hl hn L _ L 0 [] (by omega) (by simp) (by omega)).trans rfl
theorem zfv(hs:ScOk s)(r:Int)(L:Nat)(kx:Int->Ls->List V->Option Y):∀ (n i:Nat) (acc:List (List Int)),s.tk.length-i<n->acc.length<=i->i<=s.tk.length ->
  kL bN cq cQ cu cG cR L kx n r (dU acc) (s.tk.map jD) (s.tk.length:Int) (i:Int) (fE s)=kx r (dU (acc++oO r (s.tk.drop i))) (fE s):=by
 have htl:=hs.tl;intro n
 induction n with
 | zero=>intro i acc h1; omega
 | succ n ih=>
  intro i acc h1 h2 h3;by_cases h:i<s.tk.length
  ·have ht:=hs.tk _ (WaV h);rw [kL,oo,du (by omega),fe (fo h),k_c,QP,cH,W2,WaM h,EL];by_cases c:s.tk[i].r=r
   ·rw [fd c,Xb,VW L (by have:=ht.l; omega),EN,Et (by omega),cH,EM,cH,up (by omega),ih (i+1) _ (by omega) (by simp; omega) (by omega),if_pos c,WcG]; rfl
   ·rw [eA c,cH,up (by omega),ih (i+1) _ (by omega) (by omega) (by omega),if_neg c]
  ·rw [kL,oo,dt (by omega),WaD (by omega)]; simp [oO]
theorem zep(hl:∀ w∈l,OwOk w)(hn:l.length<=100000){N:List (List Int)}(hN:∀ x∈N,dG x)(r:Int)(hL:10<=L)(kx:Int->Ls->Lm->Option Y):∀ (n i:Nat) (acc:List (List Int)),l.length-i<n->acc.length<=2000+i->i<=l.length ->
  jZ bN cq cQ cu cG cR L kx n r (dU acc) (l.map crw) (l.length:Int) (i:Int) (vk N)=kx r (dU (acc++((l.drop i).filter λw=>jN N w.aA).map Gm)) (vk N):=by
 intro n
 induction n with
 | zero=>intro i acc h1; omega
 | succ n ih=>
  intro i acc h1 h2 h3;by_cases h:i<l.length
  ·have hw:=hl _ (WaV h);rw [jZ,m8,du (by omega),fe (fo h),WbR (by rw [zC hw.hl]; omega),bT ⟨zC hw.hl,by omega⟩,zfP hw.hl,cH,j3 (zfz hw.hl),zfl hw.s hN,WaM h,Wdi];cases c:jN N l[i].aA with
   | true=>rw [gY,bT (by rw [zC hw.hl]; omega),zc1 hw.hl,zex (by omega) hw.hl,EN,Et (by omega),cH,EM,cH,up (by omega),ih (i+1) _ (by omega) (by simp; omega) (by omega),if_pos rfl,WcG]; rfl
   | false=>rw [eD,cH,up (by omega),ih (i+1) _ (by omega) (by omega) (by omega),if_neg (by simp)]
  ·rw [jZ,m8,dt (by omega),WaD (by omega)]; simp
theorem Ds(hs:ScOk s)(tip:Int)(hL:20000000<=L)(k:Int->Ls->Bool->Option Y):dw Y L (fE s) tip k =
  ifb (decide (s.tk.length=0)||decide (g8 s.tk>=tip)) (k 0 [] false) (k (Wbf .i64 (g8 s.tk+1)) (dU (P4 s)) true):=by
 have htl:=hs.tl;have hol:=hs.ol;obtain ⟨N,g1,g2,g3⟩:=zet hs;obtain ⟨d1,d2⟩:=QB hs (g8 s.tk);simp only [dw,AA,FJ,s_c,s_d];rw [FI (by omega) (by omega) (λt ht=>(hs.tk t ht).r.1),s_0,WcO];by_cases c1:s.tk.length=0
 ·rw [fd (by omega),decide_eq_true c1]; rfl
 ·rw [eA (by omega),decide_eq_false c1,Wdh];refine congrArg _ ?_;rw [s_0,WcO];refine (zfv hs (g8 s.tk) L _ L 0 [] (by omega) (by simp) (by omega)).trans ?_;rw [List.nil_append,WcP,mM,qi,s_c,s_d,g3 L (by omega),s_1,YZ hs.ow (by omega) (by omega),WcO];refine (zep (λw hw=>hs.ow w (List.mem_filter.1 hw).1) (Nat.le_trans (Wdg _ _) (by omega)) g1 (g8 s.tk) (by omega) _ L 0 _ (by have:=Wdg (λw:OwT=>w.sp==0) s.ow; omega) (by omega) (by omega)).trans ?_;rw [WcP,List.filter_filter,oY,cH];have:(λw:OwT=>jN N w.aA&&w.sp==0)=λw=>w.sp==0&&jN (oO (g8 s.tk) s.tk) w.aA:=by
   funext w; rw [g2,Bool.and_comm]
  rw [this]; rfl
end
section
variable {l:List (List Int)}{L:Nat}{s:ScT}
variable {Y:Type}
theorem zb0(L:Nat)(hl:∀ b∈l,dG b)(hn:l.length<=1000000)(kr:Bool->Option Y)(kx:Option Y):∀ (n i:Nat),l.length-i<n ->
  lD L kr kx n (dU l) (dU l) (l.length:Int) (i:Int)=kx:=by
 intro n
 induction n with
 | zero=>intro i h1; omega
 | succ n ih=>
  intro i h1;by_cases h:i<l.length
  ·have hb:=hl _ (WaV h);have hc:∀ {Y:Type} (k:Ls->Option Y),cL 1 [V.sl 1 (eB .u8 l[i])] 0 k=k (eB .u8 l[i]):=λk=>ro rfl k;rw [lD,pj,du (by omega),fe (KJ h),hc,pX,fe (KJ h),hc,pX,V9 hb hb,decide_eq_true rfl,WcR,eD,cH,up (by omega),ih (i+1) (by omega)]
  ·rw [lD,pj,dt (by omega)]
theorem X7(hL:2000000<=L)(hl:∀ b∈l,dG b)(hn:l.length<=1000000)(k:Bool->Option Y):dn Y L (dU l) (dU l) k=k true:=by
 simp only [dn,yU,DU];rw [iM,if_pos rfl,wT];exact (zb0 L hl hn _ _ L 0 (by omega)).trans rfl
theorem zhK(x:Int):dG (le4 x):=by
 intro n hn;simp only [le4,List.mem_cons,List.not_mem_nil,or_false] at hn;rcases hn with rfl | rfl | rfl | rfl <;> exact EP _
theorem zg9(hs:ScOk s):(∀ b∈P4 s,dG b)/\(P4 s).length<=10000:=by
 obtain ⟨d1,d2⟩:=QB hs (g8 s.tk);have hol:=hs.ol;refine ⟨λb hb=>?_,?_⟩
 ·rcases Wbt.1 hb with h | h
  ·exact d1 b h
  ·obtain ⟨w,hw,rfl⟩:=WbX.1 h;have hw:=hs.ow w (List.mem_filter.1 hw).1;intro n hn;rcases Wbt.1 hn with h | h
   ·exact hw.hb n h
   ·exact zhK _ n h
 ·have:=Wdg (λw:OwT=>w.sp==0&&jN (oO (g8 s.tk) s.tk) w.aA) s.ow;simp only [P4,List.length_append,WcO]; omega
theorem zcB(hs:ScOk s){b:List V}(hb:Rp b s)(hL:20000000<=L){ts:List Int}(hts:ts.length<=1000)(kr:Bool->Ls->Int->Option Y)(kx:List V->Ls->Int->Option Y)(p:Ls)(q:Int):∀ (n i:Nat),ts.length-i<n ->
  iS dv dF dh dm dg dw cr dn bN bO L kr kx n (eB .i64 ts) (ts.length:Int) (i:Int) b p q=kx b p q:=by
 obtain ⟨n1,n2⟩:=zg9 hs;intro n
 induction n with
 | zero=>intro i h1; omega
 | succ n ih=>
  intro i h1;by_cases h:i<ts.length
  ·rw [iS,lP,du (by omega),fe (Wh _ h),eQ (by rfl),hb.c,hb.d,Ds hs _ hL];cases hc:decide (s.tk.length=0)||decide (g8 s.tk>=ts[i]) with
   | true=>
    rw [gY,hb.c,LD hs _ hL,hc,gY,iM,if_pos rfl,show (!((false:Bool)==false))=false from rfl,eD,show ([]:Ls)=dU [] from rfl,X7 (by omega) (by simp) (by simp),WcR,eD,cH,up (by omega),ih (i+1) (by omega)]
   | false=>
    rw [eD,hb.c,LD hs _ hL,hc,eD,iM,if_pos rfl,show (!((true:Bool)==true))=false from rfl,eD,X7 (by omega) n1 (by omega),WcR,eD,cH,up (by omega),ih (i+1) (by omega)]
  ·rw [iS,lP,dt (by omega)]
theorem SK(a0:Ls)(a1:Int)(hl0:a0.length<=maxLen)(wf0:∀ e∈a0,HasRow [.int .i64] e)(wf1:(Lit.int .i64 a1).wf=true):∃ L,∀ k:Bool->Option Bool,jJ Bool L a0 a1 k=k true:=by
 obtain ⟨l,rfl,_⟩:=Ya wf0
 let d:Dec:=⟨l,0,by omega,by omega,by
  rw [jj] at hl0; have:maxLen<=9223372036854775807:=by decide
  omega⟩
 obtain ⟨w,bs,d1,hw,L1,h1⟩:=zc3 d;obtain ⟨b,s,d2,hs,hb,L2,h2⟩:=zfr hw d1;obtain ⟨r,_,_,h3⟩:=XO a1 8 (by omega) (by omega);refine ⟨20000000+L1+L2,λk=>?_⟩;generalize hL:20000000+L1+L2=L;simp only [jJ,qy,wt,dF,Il,dv];rw [bT (by omega),show dh Bool L 6 (eB .i64 l) 0=dh Bool L 6 d.es d.a from rfl,h1 L (by omega),hw.d,h2 L (by omega),bT ⟨hb.l,by omega⟩,j8 (by rw [hb.l]; rfl),cH,h3];refine (zcB (Y:=Bool) hs hb (by omega) (ts:=[a1,r]) (by simp) _ _ _ _ L 0 (by simp; omega)).trans ?_;rw [m9,hb.c,hb.d,FI (by omega) (by have:=hs.tl; omega) (λt ht=>(hs.tk t ht).r.1),hb.c,yJ (by omega) (by have:=hs.tl; omega)];simp
end
section
theorem gS{a b:Bool}(ha:a=true)(hb:b=true):(a&&b)=true:=by rw [ha,hb]; rfl
theorem zea:laidOutB Tryz.prog=true:=by kernel_rfl
theorem zeb:mapsRowed Tryz.prog=true:=by kernel_rfl
theorem zdF:(Tryz.prog.stops==[])=true:=by kernel_rfl
theorem zde:(Tryz.prog.stopKnobs==[])=true:=by kernel_rfl
theorem zdd:Tryz.prog.stopsHeard=true:=by kernel_rfl
theorem zdz:Tryz.prog.mayEnter=true:=by kernel_rfl
theorem zdx:(false==Tryz.prog.liftsFinal)=true:=by kernel_rfl
theorem zfm:(true==Tryz.prog.plainKeys)=true:=by kernel_rfl
end
section
def ov0:List (Nat × (Nat->Dk)):=[]
theorem zgu:Y1 (cN rows) 0 ov0:=zgI
end
section
noncomputable section
theorem Vh(Y:Type)(n:Nat)(k:KK Y):SO (cN rows) (ovF ov0 (n+30000)) (n+30000) 40 Y 813 [] [] k=k (.sc (.bool true)) []:=by kernel_rfl
theorem S8(L:Nat):FOk (cN rows) L 813 (Kt dv L) 40:=zei zgu L 40 813 (zeA (X:=λL Y a b k=>SO (cN rows) (ovF ov0 L) L 40 Y 813 a b k) Vh L)
theorem JS(L:Nat):FOk (cN rows) L 811 (wo jJ L) 402:=eF (D:=401) (by kernel_rfl) λm hm=>⟨hZ,ig dv dF dh dm dg dw cr dn bN bO L,(cU (cU (cU (cU (cU (cU (cU (cU (cU (cU ep (S8 L m (by omega))) (Vl L m (by omega))) (Tb L m (by omega))) (Sw L m (by omega))) (JO L m (by omega))) (UE L m (by omega))) (Gn L m (by omega))) (RQ L m (by omega))) (wh L m (by omega))) (o9 L m (by omega))),Jm L⟩
end
end
section
namespace scanNextL
open Go.ChangeShapes Go.WideShapes Go.ChangeAt Go.RowKit
theorem own:ownKnob Tryz.prog.godebug=none:=by kernel_rfl
theorem Yr:laidOutB Tryz.prog=true:=by kernel_rfl
set_option maxRecDepth 100000 in
theorem zf9(os:Os)(started:os.Started)(H:Type)(enc:TypeId × Value->H) :
  ReturnsInHanded {} Tryz.checked os 4 .any (Rows.scanNextSpec.pre6 enc Tryz.prog Tryz.f4 Rows.scanNextRow.domain false) (Rows.scanNextSpec.post enc Tryz.prog Tryz.f4 false true false false):=by
 refine returnsInHanded_of_change (C:=Tryz.checked) own started (by kernel_rfl) Tryz.func4
  (ChangeSpec.witness6 (enc:=enc) (C:=Tryz.checked) false ⟨#[],#[.slice none 0 0,.int .i64 0],[]⟩ 8 (by kernel_rfl) (by kernel_rfl) (by kernel_rfl) (by kernel_rfl)) ?_
 intro c9 base args ds gs before hval0 hW hcnd _;have hval:∀ (j:Nat) t v,Tryz.f4.params[j]?=some t->args[j]?=some v->Value.okWide Tryz.prog c9 .any base t v:=hval0;have hW':=hW;obtain ⟨p,q,hA0,hV,rfl,hfz,hnd⟩:=hW;have hA:DataW.TrodAll enc Tryz.prog c9 0 (λ_=>true) true Tryz.f4.params.toList args.toList ds p:=hA0;rw [Tryz.params4] at hA hval;obtain ⟨v0,vs0,d0,ds0,p0,q0,hargs,rfl,rfl,h0,r0⟩:=trodAll_cons hA;obtain ⟨v1,vs1,d1,ds1,p1,q1,rfl,rfl,rfl,h1,r1⟩:=trodAll_cons r0;obtain ⟨rfl,rfl,rfl⟩:=trodAll_nil r1;obtain rfl:args=#[v0,v1]:=by cases args; simp_all
 obtain ⟨rfl,rfl⟩:=trodVars_none hV;have k0:=h0;have lt0:∀ x∈p0,x.block<c9.heap.size:=by obtain ⟨m,hm⟩:=k0; exact DataW.trod_lt m _ _ _ hm
 have k1:=h1;have lt1:∀ x∈p1,x.block<c9.heap.size:=by obtain ⟨m,hm⟩:=k1; exact DataW.trod_lt m _ _ _ hm
 obtain ⟨A0,len0,cap0,rfl⟩:=okWide_slice Tryz.underlying22 (hval 0 22 v0 rfl rfl);obtain ⟨x0,hx0,rp0⟩:=zeq (r:=.any) (b0:=base) (aa:=jl fg gls) (d:=20) (ct:=.sl ([.int .i64])) rfl h0 (by kernel_rfl);obtain ⟨a0,rfl,hl0,wf0⟩:=hx0.aV;obtain ⟨a1,rfl,rfl,rfl,wf1⟩:=open_int Tryz.underlying3 (hval 1 3 v1 rfl rfl) h1;clear hA0 hval0;obtain ⟨L,hL⟩:=SK a0 a1 hl0 wf0 wf1;have hd:wo jJ L Bool [(V.sl 1 a0),(QQe a1)] [] LI=some true:=by
  show (aL 1 (V.sl 1 a0) λx0=>aI .i64 (QQe a1) λx1=>jJ Bool L x0 x1 (λp=>LI (V.sc (.bool p)) []))=some true;rw [zhD,EX];exact (hL (λp=>LI (V.sc (.bool p)) [])).trans rfl
 obtain ⟨v,b,hev,hk⟩:=JS L 1000 (by decide) Bool [(V.sl 1 a0),(QQe a1)] [] LI true hd;have hv:=zba hk;subst hv;refine (ZU (us:=[.slice A0 len0 cap0,.int .i64 a1]) (w:=c9) (λ_ _ h=>by cases h) (zhM L 1000) (f:=4) (by kernel_rfl) rfl (λi x u hx hu=>?_) hev).mono λe W' ⟨he,bel0⟩=>?_
 ·match i,hx,hu with
  | 0,hx,hu=>cases hx; cases hu; exact rp0
  | 1,hx,hu=>cases hx; cases hu; exact .sc _ rfl
  | n+2,hx,hu=>simp at hx
 ·have bel:=Kept.below bel0;subst he;exact ⟨_,rfl,_,_,_,[],_,[],hW',trodAll_mk1 (shut_bool Tryz.underlying4 _),(trodAll_cons_mk (Below.trod Yr (by kernel_rfl) (of_decide_eq_true (by kernel_rfl)) k0 bel lt0) (trodAll_cons_mk (Below.trod Yr (by kernel_rfl) (of_decide_eq_true (by kernel_rfl)) k1 bel lt1) trodAll_mk0)),rfl,bel.frame _,λh=>by cases h⟩
theorem zhz:(Rows.scanNextRow.wf (OpenSpec.ofChange Rows.scanNextSpec))=true:=by kernel_rfl
theorem zhg:(Tryz.f4.params.all (Tryz.prog.readableRec ·))=true:=by kernel_rfl
theorem zhh:(namedTie Tryz.prog Rows.scanNextRow.named Rows.scanNextSpec.vars)=true:=by kernel_rfl
theorem zhp:((Rows.scanNextRow.stops==[]))=true:=by kernel_rfl
theorem zht:((Rows.scanNextRow.knobs==[]))=true:=by kernel_rfl
theorem zhk:((Rows.scanNextRow.inPlace==Tryz.prog.inPlace 4))=true:=by kernel_rfl
theorem zgl:((Rows.scanNextRow.unfollowed==Tryz.prog.unfollowed 4))=true:=by kernel_rfl
theorem zgx:((Rows.scanNextRow.recurses==Tryz.prog.recurses 4))=true:=by kernel_rfl
theorem zg4:((Rows.scanNextRow.named==Tryz.prog.varsNamed 4))=true:=by kernel_rfl
theorem zgM:((Rows.scanNextRow.maps==(Tryz.f4.params.toList++Rows.scanNextSpec.plain.varTypes Tryz.prog).any (Tryz.prog.mapsRec ·)))=true:=by kernel_rfl
theorem zf4:((Rows.scanNextRow.ifaces==(Tryz.f4.params.toList++Rows.scanNextSpec.plain.varTypes Tryz.prog).any (Tryz.prog.ifacesRec ·)))=true:=by kernel_rfl
theorem zfD:((Rows.scanNextRow.mapsOut==Tryz.prog.mapsAmong Tryz.f4.resultTypes.toList))=true:=by kernel_rfl
theorem zgV:((Rows.scanNextRow.loops==(Tryz.f4.params.toList++Rows.scanNextSpec.plain.varTypes Tryz.prog).any (Tryz.prog.loopsFrom ·)))=true:=by kernel_rfl
theorem zgK:((Rows.scanNextRow.wideKeys==(Tryz.f4.params.toList++Rows.scanNextSpec.plain.varTypes Tryz.prog++Tryz.f4.resultTypes.toList).any (Tryz.prog.wideKeysFrom ·)))=true:=by kernel_rfl
theorem zf6:(Rows.scanNextSpec.vars.all (Tryz.prog.varReadable ·))=true:=by kernel_rfl
theorem zgE:(Tryz.f4.resultTypes.all (λt=>Tryz.prog.readableRec t&&decide (t<Tryz.prog.types.size)))=true:=by kernel_rfl
theorem zgi:((Rows.scanNextRow.ifacesOut==Tryz.f4.resultTypes.toList.any (Tryz.prog.ifacesRec ·)))=true:=by kernel_rfl
theorem zgj:((Rows.scanNextRow.loopsOut==Tryz.f4.resultTypes.toList.any (Tryz.prog.loopsFrom ·)))=true:=by kernel_rfl
theorem zfK:(Rows.scanNextRow.shortTexts.isNone)=true:=by kernel_rfl
theorem zg1:((Tryz.prog.make==some Rows.scanNextRow.make))=true:=by kernel_rfl
theorem zgS:((Rows.scanNextRow.kinds==(if Rows.scanNextRow.domain.isEmpty then [] else Tryz.f4.params.toList.map λt=>match Tryz.prog.underlying t with | some (.int k)=>some k | _=>none)))=true:=by kernel_rfl
theorem zg7:((Rows.scanNextRow.pinned==Rows.scanNextRow.pinnedBy))=true:=by kernel_rfl
theorem zfQ:((Rows.scanNextRow.veiled==(Tryz.f4.params.toList++Rows.scanNextSpec.plain.varTypes Tryz.prog++Tryz.f4.resultTypes.toList).any (Tryz.prog.veiledRec ·)))=true:=by kernel_rfl
theorem zgq:(Rows.scanNextRow.veiledFits Tryz.prog Tryz.f4.params.toList (Tryz.f4.params.toList++Rows.scanNextSpec.plain.varTypes Tryz.prog++Tryz.f4.resultTypes.toList))=true:=by kernel_rfl
theorem zge:joinedFacts Tryz.prog 4 Tryz.f4 Rows.scanNextSpec Rows.scanNextRow=true:=by
 unfold joinedFacts;exact (gS (gS (gS (gS (gS (gS (gS (gS (gS (gS (gS (gS (gS (gS (gS (gS (gS (gS (gS (gS (gS (gS (gS (gS (gS (gS (gS (gS (gS (gS (gS zhz zea) zeb) zhg) zhh) zhp) zdF) zht) zde) zhk) zgl) zgx) zg4) zgM) zf4) zfD) zgV) zgK) zf6) zgE) zgi) zgj) zfm) zfK) zdd) zdz) zdx) zg1) zgS) zg7) zfQ) zgq)
theorem inst:Tryz.f4.isInstance Tryz.prog Rows.scanNextRow.origin Rows.scanNextRow.targs:=of_decide_eq_true (by kernel_rfl)
theorem cE:Tryz.f4.isWrapper Tryz.prog Rows.scanNextRow.wrapper Rows.scanNextRow.mainSum:=by
 unfold Func.isWrapper
 first | (rw [if_pos (by decide +kernel)]; kernel_rfl) | (rw [if_neg (by decide +kernel)]; exact ⟨rfl,rfl⟩)
theorem lZ:Tryz.prog.funcNamed Rows.scanNextRow.func=some 4:=by kernel_rfl
theorem over:Rows.scanNextRow.holds Tryz.pinned (OpenSpec.ofChange Rows.scanNextSpec):=
 OpenClaim.holds_of_wide 4 Tryz.f4 rfl rfl rfl rfl rfl rfl rfl ⟨rfl,rfl,rfl,rfl,rfl⟩ rfl rfl rfl rfl rfl lZ Tryz.func4 zge inst cE
  (λos started H enc _=>zf9 os started H enc)
end scanNextL
theorem scanNext_holds:Rows.ScanNextSaid:=scanNextL.over
end
end Go.Proofs.YtipklgbboecciaaGreat
