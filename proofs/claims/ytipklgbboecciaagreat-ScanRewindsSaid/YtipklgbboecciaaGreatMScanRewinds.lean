/- ScanRewinds: for every input the call returns true, and each argument reads afterwards as it read before. No condition. -/
import Derived.Test.YtipklgbboecciaaGreatRows
import Derived.JoinedOf
import Derived.Test.YtipklgbboecciaaGreatMScanRewinds18
namespace Go.Proofs.YtipklgbboecciaaGreat
set_option maxRecDepth 100000
set_option linter.unusedVariables false
set_option linter.unusedSimpArgs false
open IntKind renaming wrap->Wbf
open List renaming getElem_mem->WaV,drop_of_length_le->WaD,drop_eq_getElem_cons->WaM,take_of_length_le->WbR,length_map->WcP,append_assoc->WcH,map_cons->WbD,append_nil->Wdb,take->WcL,drop_zero->WcR,length_set->Wdc,take_succ_eq_append_getElem->Wdd,replicate->Wad,length_append->Wde,take_append_of_le_length->Wdf,drop_append_of_le_length->Wdg,length_singleton->Wdh,mem_cons_of_mem->WcC,length_cons->WcW,drop->WcN,mem_or_eq_of_mem_set->WcT,nil_append->WcS,filter_cons_of_neg->Wdi,length_take->Wci,map_append->WcU,mem_map->WbX,flatten_append->Wbc,mem_singleton->WcG,mem_cons_self->Wcz,getElem?_append_left->Wan,getElem?_eq_getElem->Wac,cons_append->Wdo,filter_cons_of_pos->Wdp,mem_append->Wbt,length->WcK,take_append_drop->Wcx,length_filter_le->Wdt,take_zero->Wdu,filter_eq_self->WbU,getElem?_drop->Waj,map_nil->Wdw,map_set->Wdx
open Bool renaming not_true->WcQ,and_eq_true->WaG,true_and->WcV,or_eq_false_iff->Wdj,false_and->Wdk,not_false->Wdl,false_or->Wdm,if_false_right->Wdv
open Int renaming toNat->WcM,eq_ofNat_of_zero_le->Wdr
open Option renaming isSome->Wdn,getD->Wds
open Nat renaming zero_add->Wau,add_sub_cancel_left->Wdq
section
variable {s:ScT}{L:Nat}
variable {Y:Type}
structure Dec where
 l:List Int
 a:Int
 h0:0<=a
 h1:a<=l.length
 hl:l.length<=9223372036854775807
def Dec.es(d:Dec):Ls:=eQ .i64 d.l
theorem xe(d:Dec)(n:Int)(hn:1<=n)(hn2:n<=1000000000000):∃ (r:Int) (d':Dec),0<=r/\r<n/\∀ (L:Nat) (Y:Type) (k:Int->Ls->Int->Option Y),bW Y L n d.es d.a k=k r d'.es d'.a:=by
 obtain ⟨l,a,h0,h1,hl⟩:=d;simp only [Dec.es];by_cases h:a<l.length
 ·obtain ⟨i,rfl⟩:∃ i:Nat,a=i:=⟨a.toNat,by omega⟩;have hi:i<l.length:=by omega
  obtain ⟨r,q1,q2,q3⟩:=Da l[i] n hn hn2;refine ⟨r,⟨l,i+1,by omega,by omega,hl⟩,q1,q2,λL Y k=>?_⟩;simp only [bW,tG,fW,ug,cM,kL];have w1:Wbf .i64 ((i:Int)+1)=(i:Int)+1:=lp (by omega) (by omega);have w2:Wbf .i64 ((i:Int)+1-1)=(i:Int):=by rw [lp (by omega) (by omega)]; omega
  rw [zaz,if_pos (by omega),w1,w2,fj (zaT _ hi),dg (by rfl),q3]
 ·refine ⟨0,⟨l,a,h0,h1,hl⟩,by omega,by omega,λL Y k=>?_⟩;simp only [bW,tG,fW,ug,cM,kL];rw [zaz,if_neg (by omega)]
theorem Pp(n:Int):0<=Wbf .u8 n/\Wbf .u8 n<=255:=Ms .u8 n
theorem V1:∀ (m:Nat) (acc:List Int) (d:Dec),ed acc->acc.length+m<=1000->∃ (l:List Int) (d':Dec),ed l/\l.length=acc.length+m/\∀ (L n:Nat),m<n->∀ (Y:Type) (kx:Ls->Ls->Int->Option Y),
  kD bW L kx n (eQ .u8 acc) (m:Int) d.es d.a=kx (eQ .u8 l) d'.es d'.a
 | 0,acc,d,ha,hn=>⟨acc,d,ha,rfl,λL n hn Y kx=>by
  obtain ⟨n,rfl⟩:∃ k,n=k+1:=⟨n-1,by omega⟩;rw [kD,oE,di (by omega)]⟩
 | m+1,acc,d,ha,hn=>by
  obtain ⟨r,d1,_,_,h1⟩:=xe d 256 (by omega) (by omega);have hb:ed (acc++[Wbf .u8 r]):=λx hx=>by
   rcases Wbt.1 hx with h | h
   ·exact ha x h
   ·rw [WcG.1 h]; exact Pp r
  obtain ⟨l,d2,g1,g2,g3⟩:=V1 m (acc++[Wbf .u8 r]) d1 hb (by simp; omega);refine ⟨l,d2,g1,by rw [g2]; simp; omega,λL n hn Y kx=>?_⟩;obtain ⟨n,rfl⟩:∃ k,n=k+1:=⟨n-1,by omega⟩;have e1:Wbf .i64 (((m+1:Nat):Int)-1)=(m:Int):=by rw [lp (by omega) (by omega)]; omega
  have e2:bY 1 1 [(QQa (Wbf .u8 r))]=eQ .u8 [Wbf .u8 r]:=rfl;rw [kD,oE,cY (by omega),h1,cM,e2,Lp,bQ (by simp only [kL,cN,WcW,List.length_nil]; omega),cM,e1,cM,g3 L n (by omega)]
theorem zgS(d:Dec):∃ (l:List Int) (d':Dec),ed l/\l.length<=6/\∀ (L:Nat),100<=L->∀ (Y:Type) (k:Ls->Ls->Int->Option Y),fM Y L 6 d.es d.a k=k (eQ .u8 l) d'.es d'.a:=by
 obtain ⟨r,d1,r0,r1,h1⟩:=xe d 7 (by omega) (by omega);obtain ⟨m,rfl⟩:∃ m:Nat,r=(m:Int):=⟨r.toNat,by omega⟩;obtain ⟨l,d2,g1,g2,g3⟩:=V1 m [] d1 (by simp [ed]) (by simp; omega);refine ⟨l,d2,g1,by simp at g2; omega,λL hL Y k=>?_⟩;simp only [fM,sn,ya,cM];rw [show Wbf .i64 ((6:Int)+1)=7 from rfl,h1];exact (g3 L L (by omega) Y _).trans rfl
structure WoOk (w:List V) (bs:Ls):Prop where
 l:w.length=84
 d:w.map V.ag=w
 at80:w[80]?=some (V.sl 69 bs)
 n:bs.length<=6
 b:∀ b∈bs,∀ N W,GL N W vB b
theorem zhx{w:List V}(h:∀ N W,GL N W (vI++[.ai 0 69 0 6 vB,.ai 0 34 1 7 vP,.ai 0 36 1 7 IU,.ai 0 1 0 6 N2]) w):∃ bs,WoOk w bs:=by
 have hl:w.length=84:=(h 0 (λ_=>0)).1.symm;have h80:w[80]?=some w[80]:=Wac (by omega);have hg:∀ N W,G N W (.ai 0 69 0 6 vB) w[80]:=λN W=>(h N W).2 80 _ _ rfl h80;obtain ⟨bs,e,_,h2,h3⟩:=Oj (by omega) hg;exact ⟨bs,hl,Km (by rfl) (h 0 (λ_=>0)),by rw [h80,e]; rfl,by omega,h3⟩
theorem zhA(d:Dec):∃ (w:List V) (bs:Ls) (d':Dec),WoOk w bs/\Fin2 λL=>∀ (Y:Type) (k:List V->Ls->Int->Option Y),cP Y L 6 d.es d.a k=k w d'.es d'.a:=by
 obtain ⟨r,d1,r0,r1,h1⟩:=xe d 256 (by omega) (by omega);obtain ⟨l,d2,g1,g2,g3⟩:=zgS d1;obtain ⟨v,g,L0,h⟩:=yI (dj (D':=400) (by decide) zeE) (ws:=[.sc (.int .u8 (Wbf .u8 r)),.sl 1 (eQ .u8 l)]) (λN W=>.cons (.iv .u8 _ _ _ (Pp r)) (gl1 (Tg (q:=0) (by simp) (by rw [kL]; omega) (λx hx=>by
  obtain ⟨n,hn,rfl⟩:=WbX.1 hx;exact gl1 (.iv .u8 _ _ n (g1 n hn))))))
 obtain ⟨w,rfl,_⟩:=Gl (g 0 (λ_=>0));have hw:∀ N W,GL N W (vI++[.ai 0 69 0 6 vB,.ai 0 34 1 7 vP,.ai 0 36 1 7 IU,.ai 0 1 0 6 N2]) w:=λN W=>by
  obtain ⟨_,e,h⟩:=Gl (g N W); cases e; exact h
 obtain ⟨bs,hbs⟩:=zhx hw;refine ⟨w,bs,d2,hbs,L0+100,λL hL Y k=>?_⟩;have hc:∀ (k:List V->Option Y),iP Y L (Wbf .u8 r) (eQ .u8 l) k=k w:=λk=>(h L (by omega) Y _).trans (zee _ _);simp only [cP,G6];rw [h1,cM,g3 L (by omega),hc,bQ ⟨hbs.l,by omega⟩,mc (by rw [hbs.l]; rfl),cM,bQ ⟨trivial,hbs.l,by decide⟩]
def zmm(s:ScT):List (List Int):=B7 (nX s.tk) s.tk++(s.ow.filter λw=>w.sp==0&&ME (B7 (nX s.tk) s.tk) w.an).map TG
theorem zet(l m:List (List Int)):WcL l.length (fi (l++m))=fi l:=by simp [fi]
theorem zfi(hs:ScOk s){due:List (List Int)}(hd:∀ b∈due,ed b)(hdn:due.length<=1000)(hL:20000000<=L)(kx:Ls->List V->Option Y):∀ (n i:Nat) (acc:List (List Int)),i<=s.ow.length->s.ow.length-i<n->acc.length<=i ->
  mo bZ dF bP dJ L kx n (fi (due++acc)) (due.length:Int) (i:Int) (eU s)=kx (fi (due++(acc++((s.ow.drop i).filter λw=>w.sp==0&&ME due w.an).map TG))) (eU s):=by
 have hol:=hs.ol;intro n
 induction n with
 | zero=>intro i acc h1 h2; omega
 | succ n ih=>
  intro i acc h1 h2 h3;by_cases h:i<s.ow.length
  ·have hw:=hs.ow _ (WaV h);have h37:(WcN 37 (cH s.ow[i]))[0]?=some (QQe s.ow[i].sp):=by rw [Waj]; exact f8 hw.hl 4
   have hsc:(WcN 1 (WcN 33 (cH s.ow[i])))[0]?=some (V.sl 1 (eQ .u8 s.ow[i].an)):=by rw [Yx hw.hl]; rfl
   have hj:0<=(due.length:Int)/\(due.length:Int)<=(((fi (due++acc)).length:Nat):Int):=by rw [EI]; simp; omega
   rw [mo,qt,s_1,WcP,cY (by omega),s_1,fj (eH h),dg h37,bQ hj,s_1,fj (eH h),uD hsc,Int.toNat_natCast,Nat.sub_zero,WcR,zet,zaX hL (by omega) hd hw.s,s_1,fj (eH h),pI hw.hl,zh7 (by omega) hw.hl,XS,Yl (by simp; omega),Yz,cM,cM];simp only [cM,up (show i<=1000000000 by omega)];rw [WcH,ih (i+1) (acc++[TG s.ow[i]]) (by omega) (by omega) (by simp; omega),ih (i+1) acc (by omega) (by omega) (by omega),WaM h,List.filter_cons];by_cases c1:s.ow[i].sp=0
   ·rw [eW c1];cases c2:ME due s.ow[i].an with
    | true=>
     rw [ii,if_pos (by simp [c1]),WbD,WcH]; rfl
    | false=>rw [eI,if_neg (by simp)]
   ·rw [dT c1,if_neg (by simp [c1])]
  ·rw [mo,qt,s_1,WcP,di (by omega),WaD (by omega)];simp
theorem zbZ(hs:ScOk s)(tip:Int)(hL:20000000<=L)(k:Int->Ls->Bool->Option Y):dO Y L (eU s) tip k =
  ifb (decide (s.tk.length=0)||decide (nX s.tk>=tip)) (k 0 [] false) (k (Wbf .i64 (nX s.tk+1)) (fi (zmm s)) true):=by
 have htl:=hs.tl;obtain ⟨d1,d2⟩:=zgh hs (nX s.tk);simp only [dO,AX,Ho,s_c,s_d];rw [s_0,WcP,Gn (by omega) (by omega),Ov (by omega) (by omega)];by_cases c1:s.tk.length=0
 ·rw [eW (by omega),decide_eq_true c1]; rfl
 ·rw [dT (by omega),decide_eq_false c1,Wdm];refine congrArg _ ?_;have:=zfi (Y:=Y) hs d1 d2 hL (λp7 b2=>oW bZ dF bP dJ L p7 b2 k) L 0 [] (by omega) (by have:=hs.ol; omega) (by simp);rw [Wdb,WcS,WcR] at this;rw [EI];refine this.trans ?_;rw [oW,s_c,s_d,Gn (by omega) (by omega),cM];rfl
end
section
variable {b:List V}{s:ScT}
variable {Y:Type}
def zsc:List V:=[(V.gs 3 ([]:Ls)),(V.gs 38 ([]:Ls))]
def Rp(b:List V)(s:ScT):Prop:=b=eU s∨(b=zsc/\s=⟨[],[]⟩)
theorem Rp.d(h:Rp b s):List.map V.ag (WcL 2 b)=eU s:=by
 rcases h with rfl | ⟨rfl,rfl⟩ <;> rfl
theorem Rp.c(h:Rp b s)(k:Option Y):chk (0+2<=(WcK b)) k=k:=by
 rcases h with rfl | ⟨rfl,rfl⟩ <;> exact bQ (Nat.le_refl 2) k
theorem Rp.l(h:Rp b s):b.length=2:=by
 rcases h with rfl | ⟨rfl,rfl⟩ <;> rfl
theorem Rp.set(h:Rp b s)(s':ScT):cq b 0 (eU s')=eU s':=mc (by rw [h.l]; rfl)
theorem SQ(s:ScT):cq [(V.gs 3 ([]:Ls)),(V.gs 38 ([]:Ls))] 0 (eU s)=eU s:=rfl
theorem Yo(L:Nat)(x:Int)(k:Ls->Option Y):dH Y L x k=k (eQ .u8 [1,1,Wbf .u8 (1+Int.tmod x 6),5]):=by
 simp only [dH,FM,cM]; rfl
theorem zgR(x:Int):ed [1,1,Wbf .u8 (1+Int.tmod x 6),5]:=by
 intro n hn;simp only [List.mem_cons,List.not_mem_nil,or_false] at hn;have:=Pp (1+Int.tmod x 6);rcases hn with rfl | rfl | rfl | rfl <;> omega
theorem So{m:Nat}(h:m<=1000):Wbf .i64 (((m+1:Nat):Int)-1)=(m:Int):=by rw [lp (by omega) (by omega)]; omega
theorem Yr{w:List V}{bs:Ls}(hw:WoOk w bs):∀ (m:Nat),m<=100->∀ (d:Dec) (b:List V) (s:ScT),ScOk s->Rp b s->∃ (b':List V) (s':ScT) (d':Dec),ScOk s'/\Rp b' s'/\Fin2 λL=>∀ (n:Nat),m<n->∀ (Y:Type) (kx:wV Y) (p q:Ls),
  gJ bW dH dR bU dO dD L kx n (m:Int) d.es d.a w p q b=kx d'.es d'.a p q b'
 | 0,_,d,b,s,hs,hb=>⟨b,s,d,hs,hb,0,λL _ n hn Y kx p q=>by
  obtain ⟨n,rfl⟩:∃ k,n=k+1:=⟨n-1,by omega⟩;rw [gJ,jo,di (by omega)]⟩
 | m+1,hm,d,b,s,hs,hb=>by
  have step:∃ (b1:List V) (s1:ScT) (d1:Dec),ScOk s1/\Rp b1 s1/\Fin2 λL=>∀ (n:Nat) (Y:Type) (kx:wV Y) (p q:Ls),
    gJ bW dH dR bU dO dD L kx (n+1) ((m+1:Nat):Int) d.es d.a w p q b=gJ bW dH dR bU dO dD L kx n (m:Int) d1.es d1.a w p q b1:=by
   obtain ⟨r,d1,r0,r1,h1⟩:=xe d 4 (by omega) (by omega);have h80:∀ {Y:Type} (k:Ls->Option Y),cLd 69 w 80 k=k bs:=λk=>jZ hw.at80 k;have hbn:=hw.n;by_cases c0:r=0
   ·obtain ⟨r2,d2,_,_,h2⟩:=xe d1 6 (by omega) (by omega);obtain ⟨r3,d3,_,_,h3⟩:=xe d2 3 (by omega) (by omega);obtain ⟨s1,e,hs1,h4⟩:=zld hs (zgR (Wbf .u8 r2)) (by simp) (Wbf .i64 (1+r3));by_cases he:e=0
    ·refine ⟨eU s1,s1,d3,hs1,.inl rfl,2000000,λL hL n Y kx p q=>?_⟩;rw [gJ,jo,cY (by omega),h1,eW c0,hb.c,h2,cM,Yo,h3,cM,hb.d,h4 L hL,bQ ⟨rfl,by omega⟩,SQ,cM,eW he,s_c,YG,bQ ⟨rfl,by rw [hb.l]; omega⟩,hb.set,cM,So (by omega),cM]
    ·refine ⟨b,s,d3,hs,hb,2000000,λL hL n Y kx p q=>?_⟩;rw [gJ,jo,cY (by omega),h1,eW c0,hb.c,h2,cM,Yo,h3,cM,hb.d,h4 L hL,bQ ⟨rfl,by omega⟩,SQ,cM,dT he,So (by omega),cM]
   by_cases c1:r=1
   ·have e22:Wbf .i64 (((bs.length:Nat):Int)+1)=((bs.length+1:Nat):Int):=up (by omega);obtain ⟨r2,d2,_,_,h2⟩:=xe d1 ((bs.length+1:Nat):Int) (by omega) (by omega);obtain ⟨s1,e,hs1,h4⟩:=zkW hs r2;by_cases he:e=0
    ·obtain ⟨r3,d3,_,_,h3⟩:=xe d2 4 (by omega) (by omega);by_cases c3:r3=0
     ·refine ⟨eU s1,s1,d3,hs1,.inl rfl,2000000,λL hL n Y kx p q=>?_⟩;rw [gJ,jo,cY (by omega),h1,dT c0,eW c1,hb.c,h80,e22,cM,h2,hb.d,h4 L hL,bQ ⟨rfl,by omega⟩,SQ,cM,eW he,h3,eW c3,s_c,YG,bQ ⟨rfl,by rw [hb.l]; omega⟩,hb.set,cM,So (by omega),cM]
     ·refine ⟨b,s,d3,hs,hb,2000000,λL hL n Y kx p q=>?_⟩;rw [gJ,jo,cY (by omega),h1,dT c0,eW c1,hb.c,h80,e22,cM,h2,hb.d,h4 L hL,bQ ⟨rfl,by omega⟩,SQ,cM,eW he,h3,dT c3,So (by omega),cM]
    ·refine ⟨b,s,d2,hs,hb,2000000,λL hL n Y kx p q=>?_⟩;rw [gJ,jo,cY (by omega),h1,dT c0,eW c1,hb.c,h80,e22,cM,h2,hb.d,h4 L hL,bQ ⟨rfl,by omega⟩,SQ,cM,dT he,So (by omega),cM]
   ·cases cn:decide (s.tk.length=0)||decide (nX s.tk>=((bs.length:Nat):Int)) with
    | true=>
     refine ⟨b,s,d1,hs,hb,20000000,λL hL n Y kx p q=>?_⟩;rw [gJ,jo,cY (by omega),h1,dT c0,dT c1,hb.c,h80,hb.d,zbZ hs _ hL,cn,ii,eI,So (by omega),cM]
    | false=>
     simp only [Wdj,decide_eq_false_iff_not] at cn;have hr0:0<=nX s.tk:=zbg s.tk (-1) (λt ht=>(hs.tk t ht).r.1) (.inr λe=>cn.1 (by rw [e]; rfl));obtain ⟨j,hj⟩:∃ j:Nat,nX s.tk=(j:Int):=⟨(nX s.tk).toNat,by omega⟩;have hjb:j<bs.length:=by omega
     have ej:Wbf .i64 (nX s.tk+1)=((j+1:Nat):Int):=by rw [hj]; exact up (by omega)
     have ek:Wbf .i64 (((j+1:Nat):Int)-1)=(j:Int):=by rw [lp (by omega) (by omega)]; omega
     obtain ⟨s1,e,hs1,L1,h4⟩:=zig hs (x:=((j+1:Nat):Int)) (by omega) (hw.b _ (WaV hjb));have hbl:(bs[j]).length=69:=(hw.b _ (WaV hjb) 0 (λ_=>0)).1.symm;have hbd:(bs[j]).map V.ag=bs[j]:=Km (by rfl) (hw.b _ (WaV hjb) 0 (λ_=>0));refine ⟨eU s1,s1,d1,hs1,.inl rfl,20000000+L1,λL hL n Y kx p q=>?_⟩;have cn':(decide (s.tk.length=0)||decide (nX s.tk>=((bs.length:Nat):Int)))=false:=by
      simp only [Wdj,decide_eq_false_iff_not]; exact cn
     rw [gJ,jo,cY (by omega),h1,dT c0,dT c1,hb.c,h80,hb.d,zbZ hs _ (by omega),cn',eI,ii,hb.c,h80,ej,ek,cM,fj (Wac hjb),WbR (by omega),hbd,h4 L (by omega),bQ ⟨rfl,by rw [hb.l]; omega⟩,hb.set,cM,So (by omega),cM]
  obtain ⟨b1,s1,d1,hs1,hb1,L1,h1⟩:=step;obtain ⟨b2,s2,d2,hs2,hb2,L2,h2⟩:=Yr hw m (by omega) d1 b1 s1 hs1 hb1;refine ⟨b2,s2,d2,hs2,hb2,L1+L2,λL hL n hn Y kx p q=>?_⟩;obtain ⟨n,rfl⟩:∃ k,n=k+1:=⟨n-1,by omega⟩;rw [h1 L (by omega),h2 L (by omega) n (by omega)]
theorem zjV{w:List V}{bs:Ls}(hw:WoOk w bs)(d:Dec):∃ (b:List V) (s:ScT) (d':Dec),ScOk s/\Rp b s/\Fin2 λL=>∀ (Y:Type) (k:List V->Ls->Int->Option Y),cR Y L w d.es d.a k=k b d'.es d'.a:=by
 obtain ⟨r,d1,r0,r1,h1⟩:=xe d 24 (by omega) (by omega);obtain ⟨m,rfl⟩:∃ m:Nat,r=(m:Int):=⟨r.toNat,by omega⟩;obtain ⟨b,s,d2,g1,g2,L1,g3⟩:=Yr hw m (by omega) d1 zsc ⟨[],[]⟩ uq (.inr ⟨rfl,rfl⟩);refine ⟨b,s,d2,g1,g2,L1+200,λL hL Y k=>?_⟩;simp only [cR,BF,Hm];rw [h1];refine (g3 L (by omega) L (by omega) Y _ _ _).trans ?_;rw [uI,g2.c,WbR (by rw [g2.l]; omega),bQ ⟨g2.l,by omega⟩,mc (by rw [g2.l]; rfl),cM,bQ ⟨rfl,g2.l,by decide⟩]
end
section
variable {L:Nat}{w:OwT}{x:Int}
variable {Y:Type}
theorem zk1{a b:Int}(ha:0<=a/\a<=255)(hb:0<=b/\b<=255):(UInt8.ofNat a.toNat<UInt8.ofNat b.toNat)↔a<b:=by
 rw [UInt8.lt_iff_toNat_lt];have e1:(UInt8.ofNat a.toNat).toNat=a.toNat:=by simp; omega
 have e2:(UInt8.ofNat b.toNat).toNat=b.toNat:=by simp; omega
 rw [e1,e2]; omega
theorem zcc:∀ (l m:List Int),l.length=m.length->ed l->ed m->Lib.compareBytes (bts l) (bts m)=m7 l m
 | [],[],_,_,_=>by simp [Lib.compareBytes,m7,bts]
 | x::l,y::m,h,h1,h2=>by
  have ih:=zcc l m (by simpa using h) (λn hn=>h1 n (by simp [hn])) (λn hn=>h2 n (by simp [hn]));have hx:=h1 x (by simp);have hy:=h2 y (by simp);simp only [bts] at ih;simp only [bts,WbD,Lib.compareBytes,m7,ih,zk1 hx hy,zk1 hy hx]
theorem za4{l m:List Int}(h:l.length=m.length)(h1:ed l)(h2:ed m)(k:Int->Option Y):gk Y L (eQ .u8 l) (eQ .u8 m) k=k (m7 l m):=by
 simp only [gk,BX,zdW,FJ,zcc l m h h1 h2,cM]
theorem zkF(L:Nat)(a b:Int)(k:Int->Option Y):eX Y L a b k=k (if a<b then -1 else if b<a then 1 else 0):=by
 have e:∀ (a:Int) (k:Bool->Option Y),fy Y L a k=k (a != a):=λ_ _=>rfl;simp only [eX,tT,e,bne_self_eq_false,eI];by_cases h1:a<b
 ·simp [h1,ifb]
 ·by_cases h2:b<a
  ·simp [h1,h2,ifb]
  ·simp [h1,h2,ifb]
theorem zlM(L:Nat)(a b:Int)(k:Int->Option Y):iu Y (L+5) (bY 1 2 [V.sc (.int .i64 a),V.sc (.int .i64 b)]) k=ifb (a != 0) (k a) (ifb (b != 0) (k b) (k 0)):=by kernel_rfl
theorem zl9(hL:5<=L)(a b:Int)(k:Int->Option Y):iu Y L (bY 1 2 [V.sc (.int .i64 a),V.sc (.int .i64 b)]) k=k (if a=0 then b else a):=by
 obtain ⟨m,rfl⟩:∃ m,L=m+5:=⟨L-5,by omega⟩;rw [zlM,ip,ip];split
 ·split
  ·rename_i h; rw [h]
  ·rfl
 ·rfl
theorem zcD(a:V)(r:List V)(x:Option Y)(f:V->List V->Option Y):lc (a::r) x f=f a r:=rfl
theorem JR(k:IntKind)(s:List V):∀ (n:Nat) (l:List Int),n<=l.length->bY 1 n (row k l++s)=eQ k (l.take n)
 | 0,l,_=>by simp [bY,eQ]
 | n+1,[],h=>by simp at h
 | n+1,x::l,h=>by
  have:=JR k s n l (by simpa using h)
  grind [bY,eQ,row]
theorem zfh(hL:2000<=L){v:OwT}(hw:OwOk w)(hv:OwOk v)(k:Int->Option Y):iq Y L (ic w) (ic v) k=k (m7 (ptL w) (ptL v)):=by
 obtain ⟨a,r,ea⟩:∃ a r,ic w=a::r:=by
  cases h:ic w with
  | nil=>have:=im hw.hl; rw [h] at this; cases this
  | cons a r=>exact ⟨a,r,rfl⟩
 obtain ⟨b,s,eb⟩:∃ a r,ic v=a::r:=by
  cases h:ic v with
  | nil=>have:=im hv.hl; rw [h] at this; cases this
  | cons a r=>exact ⟨a,r,rfl⟩
 simp only [iq,G7];rw [ea,eb,zcD,zcD,<- ea,<- eb,bQ (by rw [im hw.hl]; omega),bQ (by rw [im hv.hl]; omega)];have hwl:=hw.hl;have hvl:=hv.hl;have ew:bY 1 32 (ic w)=eQ .u8 w.h:=by rw [ic,JR _ _ _ _ (by omega),WbR (by omega)]
 have ev:bY 1 32 (ic v)=eQ .u8 v.h:=by rw [ic,JR _ _ _ _ (by omega),WbR (by omega)]
 rw [ew,ev,za4 (by omega) hw.hb hv.hb,dg (C2 hwl),dg (C2 hvl),zkF,zl9 (by omega)];unfold ptL;rw [Tf _ _ _ _ (by omega)]
theorem zeU{v:OwT}(hw:w.h.length=32)(hv:v.h.length=32):xa w v=true↔m7 (ptL w) (ptL v)=0:=by
 rw [zb2 _ _ (by simp [ptL,hw,hv])];simp only [xa,ptL,WaG,decide_eq_true_eq];constructor
 ·rintro ⟨h1,h2⟩; rw [h1,h2]
 ·intro h;have:=List.append_inj h (by omega);exact ⟨this.1,by simpa using this.2⟩
theorem zdK(hL:2000<=L){v:OwT}(hw:OwOk w)(hv:OwOk v)(k:Bool->Option Y):dq Y L (cH w) (cH v) k=k (NC w v):=by
 have hwl:=hw.hl;have hvl:=hv.hl;have key:=zeU hwl hvl;simp only [dq,AW];rw [bQ (by rw [eG hwl]; omega),bQ (by rw [eG hvl]; omega),pI hwl,pI hvl,Ha hwl hvl,bQ (by rw [eG hwl]; omega),bQ (by rw [eG hvl]; omega),zfh hL hw hv,dg (f8 hwl 2),dg (f8 hvl 2),dg (f8 hwl 4),dg (f8 hwl 4),dg (f8 hvl 2)];simp only [NC,Li];cases h:xa w v with
 | false=>
  have h0:¬ m7 (ptL w) (ptL v)=0:=λe=>by rw [key.2 e] at h; cases h
  rw [decide_eq_false h0,Wdk,Bool.or_false,Wdl,Bool.true_or,Bool.and_true,ii]
 | true=>
  have h0:=key.1 h;rw [h0,WcQ,eI,Wdm];by_cases h1:w.ht<v.ht
  ·rw [cY h1,ip];by_cases h2:w.sp=0
   ·rw [if_pos h2]; simp [h2]
   ·rw [if_neg h2];by_cases h3:w.sp<=v.ht
    ·have h4:¬ v.ht<w.sp:=by omega
     simp [h1,h3,h4,beq_eq_false_iff_ne.2 h2]
    ·have h4:v.ht<w.sp:=by omega
     simp [h3,h4]
  ·rw [di h1]; simp [h1]
theorem J7:lf w x=true↔0<=w.val/\w.val<=2100000000000000/\((w.an.length:Nat):Int)<=520/\1<=w.ht/\w.ht<=x/\(w.sp=0∨(w.ht<=w.sp/\w.sp<=x)):=by
 simp only [lf,cond_eq_ite,Wdv,Bool.if_true_left,WaG,decide_eq_true_eq,Bool.or_eq_true,beq_iff_eq,ge_iff_le,and_assoc]
theorem zdZ(h:¬ (0<=w.val/\w.val<=2100000000000000/\((w.an.length:Nat):Int)<=520/\1<=w.ht/\w.ht<=x/\(w.sp=0∨(w.ht<=w.sp/\w.sp<=x)))):lf w x=false:=Bool.eq_false_iff.2 λe=>h (J7.1 e)
def cw(x:Int)(l:List OwT):List V:=[(QQe x)]++Wad 32 (QQa (0:Int))++[(V.sl 38 (l.map cH))]
theorem zhl(x:Int)(l:List OwT)(k:Int->Option Y):cI .i64 (cw x l) 0 k=k x:=dg rfl k
theorem ziC(x:Int)(l:List OwT)(k:Ls->Option Y):cLd 38 (cw x l) 33 k=k (l.map cH):=jZ rfl k
theorem zjZ(h:w.h.length=32):cq (Wad 32 (QQa (0:Int))++[(QQc (0:Int)),(QQe (0:Int)),(V.gs 1 ([]:Ls)),(QQe (0:Int)),(V.sc (.bool false))]) 0 (WcL 37 (cH w))=WcL 37 (cH w):=mc (by rw [PG h]; rfl)
theorem Rl{l:List OwT}(hl:∀ w∈l,OwOk w)(hn:l.length<=100000){L:Nat}(hL:2000<=L)(kr:Bool->Option Y)(kx:Option Y)(x:Int):∀ (n i:Nat),l.length-i<n ->
  mU dq L kr kx n (l.map cH) (l.length:Int) (i:Int) (cw x l)=ifb ((l.drop i).all (λw=>lf w x)&&nV (l.drop (i-1))) kx (kr false)
 | 0,i,hi=>by omega
 | n+1,i,hi=>by
  by_cases h:i<l.length
  ·have hw:=hl _ (WaV h);have hwl:=hw.hl;have ih:=Rl hl hn hL kr kx x n (i+1) (by omega);rw [Nat.add_sub_cancel] at ih;rw [mU,ru,cY (by omega),fj (eH h),jd hwl,bQ ⟨eG hwl,by omega⟩,Gg hwl,cM,bQ (by rw [eG hwl]; omega),bQ ⟨PG hwl,by omega⟩,zjZ hwl,cM,dg (vK hwl 0 (by omega)),dg (vK hwl 0 (by omega)),jZ (vK hwl 1 (by omega)),dg (vK hwl 2 (by omega)),dg (vK hwl 2 (by omega)),zhl,dg (f8 hwl 4),dg (f8 hwl 4),dg (vK hwl 2 (by omega)),dg (f8 hwl 4),zhl,ziC,jd hwl,rL,cM,cM,up (by omega),ih,kL,Tl h];have np:∀ (q:¬ (0<=l[i].val/\l[i].val<=2100000000000000/\((l[i].an.length:Nat):Int)<=520/\1<=l[i].ht/\l[i].ht<=x/\(l[i].sp=0∨(l[i].ht<=l[i].sp/\l[i].sp<=x)))),ifb (lf l[i] x&&(l.drop (i+1)).all (λw=>lf w x)&&nV (l.drop (i-1))) kx (kr false)=kr false:=λq=>by rw [zdZ q]; rfl
   by_cases c1:l[i].val<0
   ·rw [cY c1,np (by omega)]
   rw [di c1];by_cases c2:l[i].val>2100000000000000
   ·rw [cY c2,np (by omega)]
   rw [di c2];by_cases c3:((l[i].an.length:Nat):Int)>520
   ·rw [cY c3,np (by omega)]
   rw [di c3];by_cases c4:l[i].ht<1
   ·rw [cY c4,np (by omega)]
   rw [di c4];by_cases c5:l[i].ht>x
   ·rw [cY c5,np (by omega)]
   rw [di c5];have tail:∀ (q:l[i].sp=0∨(l[i].ht<=l[i].sp/\l[i].sp<=x)),ifb (decide ((i:Int)>0)) (lt (Wbf .i64 ((i:Int)-1)) λx19=>idx (l.map cH) x19 λc20=>chk (0+38<=(cH l[i]).length) (dq Y L (List.map V.ag (WcL 38 c20)) (cH l[i]) λv21=>ifb (!v21) (kr false) (ifb ((l.drop (i+1)).all (λw=>lf w x)&&nV (l.drop i)) kx (kr false)))) (ifb ((l.drop (i+1)).all (λw=>lf w x)&&nV (l.drop i)) kx (kr false))=ifb (lf l[i] x&&(l.drop (i+1)).all (λw=>lf w x)&&nV (l.drop (i-1))) kx (kr false):=by
    intro q;rw [J7.2 ⟨by omega,by omega,by omega,by omega,by omega,q⟩,WcV];by_cases h0:i=0
    ·subst h0; rw [di (by omega)]
    ·have hj:i-1<l.length:=by omega
     have hv:=hl _ (WaV hj);have e1:Wbf .i64 ((i:Int)-1)=((i-1:Nat):Int):=by rw [lp (by omega) (by omega)]; omega
     rw [cY (by omega),e1,cM,fj (eH hj),bQ (by rw [eG hwl]; omega),jd hv.hl,rL,zdK hL hv hw,WaM hj,show i-1+1=i by omega,WaM h,nV];cases NC l[i-1] l[i] with
     | false=>rw [Wdk,Bool.and_false]; rfl
     | true=>rw [WcV]; rfl
   rw [ip];by_cases c6:l[i].sp=0
   ·rw [if_pos c6]; exact tail (.inl c6)
   rw [if_neg c6];by_cases c7:l[i].sp<l[i].ht
   ·rw [cY c7,np (by omega)]
   rw [di c7];by_cases c8:l[i].sp>x
   ·rw [cY c8,np (by omega)]
   rw [di c8];exact tail (.inr ⟨by omega,by omega⟩)
  ·have:nV (l.drop (i-1))=true:=by
    match q:l.drop (i-1) with
    | []=>rfl
    | [_]=>rfl
    | _::_::_=>have:=congrArg WcK q; simp at this; omega
   rw [mU,ru,di (by omega),WaD (by omega),this]; rfl
def Gw(x:Int)(l:List OwT):Bool:=!decide (x<0)&&(!decide (x>16777216)&&(!decide (((l.length:Nat):Int)>4096)&&(l.all (λw=>lf w x)&&nV l)))
theorem zeO{l:List OwT}(hl:∀ w∈l,OwOk w)(hn:l.length<=100000)(hL:200000<=L)(x:Int)(k:Bool->Option Y):cX Y L (cw x l) k=k (Gw x l):=by
 simp only [cX,yZ,Fo,zhl,ziC,WcP,Gw];cases decide (x<0);rotate_left
 ·rfl
 cases decide (x>16777216);rotate_left
 ·rfl
 cases decide (((l.length:Nat):Int)>4096);rotate_left
 ·rfl
 simp only [Wdl,eI,WcV];refine (Rl hl hn (by omega) _ _ x L 0 (by omega)).trans ?_;rw [WcR];cases (l.all λw=>lf w x)&&nV l <;> rfl
end
section
variable {i L:Nat}{l:List TkT}{t:TkT}{s:ScT}
variable {Y:Type}
theorem zaS{α:Type}(p:α->Bool):∀ (a b:List α) (n:Nat),gF p (a++b) n=if gF p a n<0 then gF p b (n+a.length) else gF p a n
 | [],b,n=>by rw [gF,if_pos (by omega)]; rfl
 | x::a,b,n=>by
  rw [Wdo,gF,gF,zaS p a b (n+1)];split
  ·rw [if_neg (by omega)]
  ·rw [WcW,show n+1+a.length=n+(a.length+1) by omega]
theorem zjt{α:Type}{p:α->Bool}{l:List α}(h:i<l.length)(hp:p l[i]=true):gF p l 0=if gF p (l.take i) 0<0 then (i:Int) else gF p (l.take i) 0:=by
 have e:l=l.take i++l[i]::l.drop (i+1):=by rw [<- WaM h,Wcx]
 have q:=zaS p (l.take i) (l[i]::l.drop (i+1)) 0;rw [<- e] at q;rw [q,gF,if_pos hp,Wci,Nat.min_eq_left (by omega),Wau]
def isS(b:List Int)(t:TkT):Bool:=decide (t.an=b)
def pm:List TkT->Nat->Lm
 | [],_=>[]
 | t::l,i=>(sk t.an,.sc (.int .i64 (i:Int)))::pm l (i+1)
theorem zgb:∀ (l:List TkT) (t:TkT) (i:Nat),pm (l++[t]) i=pm l i++[(sk t.an,.sc (.int .i64 ((i+l.length:Nat):Int)))]
 | [],t,i=>rfl
 | u::l,t,i=>by
  rw [Wdo,pm,zgb l t (i+1),pm,WcW,Wdo,show i+1+l.length=i+(l.length+1) by omega]
theorem zcr{b:List Int}(hb:ed b):∀ {l:List TkT} (i:Nat),(∀ t∈l,ed t.an)->DW (sk b) (pm l i)=some (if gF (isS b) l i<0 then none else some (.sc (.int .i64 (gF (isS b) l i))))
 | [],i,_=>rfl
 | t::l,i,h=>by
  have ih:=zcr hb (l:=l) (i+1) λu hu=>h u (WcC _ hu);by_cases hx:b=t.an
  ·subst hx;have e:gF (isS t.an) (t::l) i=(i:Int):=by rw [gF,if_pos (show isS t.an t=true from decide_eq_true rfl)]
   rw [e,if_neg (by omega)];simp only [pm,DW,Xm hb hb,decide_eq_true]
  ·have e:gF (isS b) (t::l) i=gF (isS b) l (i+1):=by rw [gF,if_neg (show ¬ isS b t=true by simp only [isS,decide_eq_true_eq]; exact λe=>hx e.symm)]
   rw [e];simp only [pm,DW,Xm hb (h t (Wcz ..)),decide_eq_false hx];exact ih
theorem zfb{b:List Int}(hb:ed b)(v:V):∀ {l:List TkT} (i:Nat),(∀ t∈l,ed t.an)->gF (isS b) l i<0->RX (sk b) v (pm l i)=some (pm l i++[(sk b,v)])
 | [],i,_,_=>rfl
 | t::l,i,h,hf=>by
  rw [gF] at hf;by_cases hx:t.an=b
  ·rw [if_pos (show isS b t=true from decide_eq_true hx)] at hf; omega
  ·have hx1:isS b t=false:=decide_eq_false hx;have hx2:¬ b=t.an:=λe=>hx e.symm;rw [hx1,if_neg (by simp)] at hf;have ih:=zfb hb v (l:=l) (i+1) (λu hu=>h u (WcC _ hu)) hf;simp only [pm,RX,Xm hb (h t (Wcz ..)),decide_eq_false hx2,ih];rfl
theorem zab(b:List Int)(k:ByteArray->Option Y):yp (eQ .u8 b) k=k ⟨(bts b).toArray⟩:=qP b k
theorem ziz{b:List Int}(hb:ed b)(hl:∀ t∈l,ed t.an)(k:Option V->Option Y):mAt 1 (V.sc (.string ⟨(bts b).toArray⟩)) (pm l 0) k=k (if gF (isS b) l 0<0 then none else some (.sc (.int .i64 (gF (isS b) l 0)))):=by
 have h:ue 1 (sk b)=true:=rfl;have e:=zcr hb 0 hl;simp only [sk] at h e;simp only [mAt,h,e]
theorem zk3(hb:ed t.an)(hl:∀ t∈l,ed t.an)(hf:gF (isS t.an) l 0<0)(k:Lm->Option Y):zbc 1 (V.sc (.string ⟨(bts t.an).toArray⟩)) (QQe ((l.length:Nat):Int)) (pm l 0) k=k (pm (l++[t]) 0):=by
 have h:ue 1 (sk t.an)=true:=rfl;have e:=zfb hb (QQe ((l.length:Nat):Int)) 0 hl hf;simp only [sk] at h e;simp only [zbc,h,e,zgb,Wau,sk]
theorem Rs{s:ScT}(hs:ScW s){L:Nat}(kr:Bool->Lm->Option Y)(K:Bool->Option Y)(hkr:∀ p b,kr p b=K p)(kx:Lm->Option Y):∀ (n i:Nat),i<=s.tk.length->s.tk.length-i<n ->
  mj L kr kx n (s.tk.map f6) (s.tk.length:Int) (i:Int) (pm (s.tk.take i) 0)=ifb (vV s (s.tk.drop i) i) (kx (pm s.tk 0)) (K false)
 | 0,i,h1,hi=>by omega
 | n+1,i,h1,hi=>by
  have htl:=hs.tl;by_cases h:i<s.tk.length
  ·have ht:=hs.tk _ (WaV h);have hb1:(f6 s.tk[i])[1]?=some (QQe s.tk[i].b):=rfl;have hl:∀ t∈s.tk.take i,ed t.an:=λt q=>hs.tk t (List.mem_of_mem_take q);have hat:=zjt (p:=isS s.tk[i].an) h (decide_eq_true rfl);rw [mj,qu,cY (by omega),fj (eH h),k_c,zdt,cM,Tb,zab,ziz ht hl,WaM h,vV,zag];by_cases hf:gF (isS s.tk[i].an) (s.tk.take i) 0<0
   ·rw [if_pos hf] at hat;have hne:(gF (λu:TkT=>decide (u.an=s.tk[i].an)) s.tk 0 != (i:Int))=false:=by
     have:gF (isS s.tk[i].an) s.tk 0=(i:Int):=hat;unfold isS at this;rw [this]; simp
    rw [if_pos hf,hne,Bool.or_false,show (Wds (none:Option V) (QQe (0:Int)))=V.sc (.int .i64 0) from rfl,show ∀ (k:Int->Option Y),aI .i64 (QQe 0) k=k 0 from λk=>by simp [aI,I7],show Wdn (none:Option V)=false from rfl,eI,Tb,Tb,dg hb1,dg hb1,RS,dg hb1,cM,RS,Tb,zab];have hlen:((s.tk.take i).length:Int)=(i:Int):=by rw [Wci]; omega
    have hput:=zk3 (Y:=Y) ht hl hf;rw [hlen] at hput;rw [hput,cM,up (by omega),show s.tk.take i++[s.tk[i]]=s.tk.take (i+1) by rw [Wdd h],Rs hs kr K hkr kx n (i+1) (by omega) (by omega),kL];simp only [hkr];by_cases c1:((s.tk[i].an.length:Nat):Int)=0
    ·rw [eW c1,beq_iff_eq.2 c1]; rfl
    rw [dT c1,beq_eq_false_iff_ne.2 c1,Wdm];by_cases c2:((s.tk[i].an.length:Nat):Int)>520
    ·rw [cY c2,decide_eq_true c2]; rfl
    rw [di c2,decide_eq_false c2,Wdm];by_cases c3:s.tk[i].b<1
    ·rw [cY c3,decide_eq_false (show ¬ s.tk[i].b>=1 by omega)]; rfl
    rw [di c3,decide_eq_true (show s.tk[i].b>=1 by omega)];by_cases c4:s.tk[i].b>16777216
    ·rw [cY c4,decide_eq_false (show ¬ s.tk[i].b<=16777216 by omega)]; rfl
    rw [di c4,decide_eq_true (show s.tk[i].b<=16777216 by omega)];by_cases c5:s.tk[i].r<Wbf .i64 (s.tk[i].b-1)
    ·rw [cY c5,decide_eq_false (show ¬ s.tk[i].r>=Wbf .i64 (s.tk[i].b-1) by omega)]; rfl
    rw [di c5,decide_eq_true (show s.tk[i].r>=Wbf .i64 (s.tk[i].b-1) by omega)];by_cases c6:s.tk[i].r>16777216
    ·rw [cY c6,decide_eq_false (show ¬ s.tk[i].r<=16777216 by omega)]; rfl
    rw [di c6,decide_eq_true (show s.tk[i].r<=16777216 by omega)]; rfl
   ·rw [if_neg hf] at hat;have hlt:gF (isS s.tk[i].an) (s.tk.take i) 0<(i:Int):=by
     rcases qW (isS s.tk[i].an) (s.tk.take i) 0 with ⟨e,_⟩ | ⟨j,hj,e,_⟩
     ·omega
     ·rw [Wci] at hj; omega
    have hne:(gF (λu:TkT=>decide (u.an=s.tk[i].an)) s.tk 0 != (i:Int))=true:=by
     have:gF (isS s.tk[i].an) s.tk 0=_:=hat;unfold isS at this;rw [this];unfold isS at hlt;simp only [bne_iff_ne,ne_eq]; omega
    rw [if_neg hf,hne,show (Wds (some (QQe (gF (isS s.tk[i].an) (s.tk.take i) 0))) (QQe (0:Int)))=V.sc (.int .i64 (gF (isS s.tk[i].an) (s.tk.take i) 0)) from rfl,show ∀ (x:Int) (k:Int->Option Y),aI .i64 (QQe x) k=k x from λx k=>by simp [aI,I7],show ∀ v:V,Wdn (some v)=true from λ_=>rfl,ii,hkr];simp only [Bool.or_true,WcQ,Wdk]; rfl
  ·rw [mj,qu,di (by omega),WaD (by omega),WbR (by omega)]; rfl
def Gz(s:ScT):Bool:=!decide (((s.tk.length:Nat):Int)>1000)&&vV s s.tk 0
theorem zgB(hs:ScW s)(hL:200000<=L)(k1:Bool->Option Y)(k2:Bool->Lm->Option Y):de Y L (s.tk.map f6) k1 k2=ifb (Gz s) (k2 true (pm s.tk 0)) (k1 false):=by
 have htl:=hs.tl;simp only [de,y6,Ft,Gz,WcP];by_cases c:((s.tk.length:Nat):Int)>1000
 ·rw [cY c,decide_eq_true c]; rfl
 ·rw [di c,decide_eq_false c,Wdl,WcV];exact Rs hs _ k1 (λp b=>rfl) _ L 0 (by omega) (by omega)
def BN(s:ScT)(w:OwT):Bool:=match s.tk.find? (isS w.an) with
 | none=>false
 | some t=>!decide (w.ht<t.b)&&(!decide (w.ht>t.r)&&!decide (w.sp>t.r))
theorem Rq{s:ScT}(hs:ScW s){L:Nat}(kr:Bool->Lm->Option Y)(K:Bool->Option Y)(hkr:∀ p b,kr p b=K p)(kx:Lm->Option Y):∀ (n i:Nat),s.ow.length-i<n ->
  lK de cX L kr kx n (s.ow.map cH) (s.ow.length:Int) (i:Int) (eU s) (pm s.tk 0)=ifb ((s.ow.drop i).all (BN s)) (kx (pm s.tk 0)) (K false)
 | 0,i,hi=>by omega
 | n+1,i,hi=>by
  have hol:=hs.ol;by_cases h:i<s.ow.length
  ·have hw:=hs.ow _ (WaV h);have hwl:=hw.hl;rw [lK,pw,cY (by omega),fj (eH h),jd hwl,bQ ⟨eG hwl,by omega⟩,Gg hwl,cM,jZ (f8 hwl 1),zab,ziz hw.s hs.tk,Tl h];rcases YO (isS s.ow[i].an) s.tk with ⟨e,e2⟩ | ⟨j,hj,e,e2⟩
   ·have:BN s s.ow[i]=false:=by simp only [BN,e2]
    rw [e,if_pos (by omega),show (Wds (none:Option V) (QQe (0:Int)))=V.sc (.int .i64 0) from rfl,show ∀ (k:Int->Option Y),aI .i64 (QQe 0) k=k 0 from λk=>by simp [aI,I7],show Wdn (none:Option V)=false from rfl,Wdl,ii,hkr,this]; rfl
   ·have:BN s s.ow[i]=(!decide (s.ow[i].ht<s.tk[j].b)&&(!decide (s.ow[i].ht>s.tk[j].r)&&!decide (s.ow[i].sp>s.tk[j].r))):=by simp only [BN,e2]
    have hb1:(f6 s.tk[j])[1]?=some (QQe s.tk[j].b):=rfl;rw [e,if_neg (by omega),show (Wds (some (QQe (j:Int))) (QQe (0:Int)))=V.sc (.int .i64 (j:Int)) from rfl,show ∀ (x:Int) (k:Int->Option Y),aI .i64 (QQe x) k=k x from λx k=>by simp [aI,I7],show ∀ v:V,Wdn (some v)=true from λ_=>rfl,WcQ,eI,s_0,fj (eH hj),k_c,zdt,cM,dg (f8 hwl 2),dg hb1,dg (f8 hwl 2),RS,dg (f8 hwl 4),RS,cM,up (by omega),Rq hs kr K hkr kx n (i+1) (by omega),this];simp only [hkr];cases decide (s.ow[i].ht<s.tk[j].b) <;> cases decide (s.ow[i].ht>s.tk[j].r) <;> cases decide (s.ow[i].sp>s.tk[j].r) <;> rfl
  ·rw [lK,pw,di (by omega),WaD (by omega)]; rfl
def Pm(s:ScT):Bool:=Gz s&&(Gw 16777216 s.ow&&s.ow.all (BN s))
theorem zde(hs:ScW s)(hL:200000<=L)(k:Bool->Option Y):cZ Y L (eU s) k=k (Pm s):=by
 have hol:=hs.ol;simp only [cZ,Bu,HN,Pm];rw [s_0,zgB hs hL];cases Gz s
 ·rfl
 rw [ii,WcV,WcQ,eI,s_1,show ∀ k:Bool->Option Y,cX Y L ([(QQe (16777216:Int))]++Wad 32 (QQa (0:Int))++[(V.sl 38 (s.ow.map cH))]) k=k (Gw 16777216 s.ow) from zeO hs.ow (by omega) hL 16777216,s_1,WcP];cases Gw 16777216 s.ow
 ·rfl
 rw [WcV,WcQ,eI];refine (Rq hs _ k (λp b=>rfl) _ L 0 (by omega)).trans ?_;rw [WcR];cases s.ow.all (BN s) <;> rfl
theorem zex(h:zag s t i=false):1<=t.b/\t.b<=16777216/\t.b-1<=t.r/\t.r<=16777216/\t.an.length<=520:=by
 simp only [zag,Wdj,Bool.not_eq_false',cond_eq_ite,Wdv,WaG,decide_eq_true_eq,decide_eq_false_iff_not] at h;obtain ⟨_,h1,⟨h2,h3⟩,⟨h4,h5⟩,_⟩:=h;rw [lp (by omega) (by omega)] at h4;exact ⟨h2,h3,h4,h5,by omega⟩
theorem LW{s:ScT}:∀ {l:List TkT} {i:Nat},vV s l i=true->∀ t∈l,1<=t.b/\t.b<=16777216/\t.b-1<=t.r/\t.r<=16777216/\t.an.length<=520
 | [],_,_,t,ht=>by cases ht
 | u::l,i,h,t,ht=>by
  simp only [vV,WaG,Bool.not_eq_true'] at h;rcases List.mem_cons.1 ht with rfl | ht
  ·exact zex h.1
  ·exact LW h.2 t ht
theorem zei(s:ScT):Pm s=vJ s:=by
 cases ht:vV s s.tk 0 with
 | false=>simp only [Pm,vJ,Gz,ht,Wdk,Bool.and_false]
 | true=>
  have q:(s.ow.all (J5 s))=(s.ow.all (λw=>lf w 16777216)&&s.ow.all (BN s)):=by
   rw [Bool.eq_iff_iff];simp only [WaG,List.all_eq_true];have key:∀ w,J5 s w=true↔lf w 16777216=true/\BN s w=true:=λw=>by
    have e0:isS w.an=λt=>decide (t.an=w.an):=rfl;simp only [J5,BN,e0];cases hf:s.tk.find? (λt=>decide (t.an=w.an)) with
    | none=>simp
    | some t=>
     have hm:=LW ht t (List.mem_of_find?_eq_some hf);simp only [WaG,Bool.not_eq_true',decide_eq_false_iff_not,J7];omega
   constructor
   ·intro h; exact ⟨λw hw=>((key w).1 (h w hw)).1,λw hw=>((key w).1 (h w hw)).2⟩
   ·rintro ⟨h1,h2⟩ w hw; exact (key w).2 ⟨h1 w hw,h2 w hw⟩
  simp only [Pm,vJ,Gz,Gw,ht,q];cases decide (((s.tk.length:Nat):Int)>1000) <;> cases decide (((s.ow.length:Nat):Int)>4096) <;> cases nV s.ow <;> cases s.ow.all (λw=>lf w 16777216) <;> cases s.ow.all (BN s) <;> rfl
theorem zfw(hs:ScW s)(hL:200000<=L)(k:Bool->Option Y):cZ Y L (eU s) k=k (vJ s):=by rw [zde hs hL,zei]
end
section
variable {α:Type}{i:Nat}{l:List OwT}{w:OwT}
variable {Y:Type}
theorem zkN(a:α)(r:List α)(x:Option Y)(f:α->List α->Option Y):lc (a::r) x f=f a r:=rfl
theorem zp{l:List α}{v:α}(h:l[i]?=some v):l.set i v=l:=by
 apply List.ext_getElem?;intro j;rw [List.getElem?_set];split
 ·rename_i e; subst e; split
  ·exact h.symm
  ·rename_i q; rw [List.getElem?_eq_none (by omega)] at h; cases h
 ·rfl
theorem zf9{X c9 new:List V}{off:Nat}(h:off+new.length<=X.length):cq (X++c9) off new=cq X off new++c9:=by
 unfold cq;rw [Wdf (by omega),Wdg (by omega),WcH,WcH,WcH]
theorem ZU{sz:Nat}:∀ {es:Ls} (c9:List V),(∀ e∈es,e.length=sz)->bY sz es.length (es.flatten++c9)=es
 | [],_,_=>rfl
 | e::es,c9,h=>by
  have he:=h e (by simp);rw [WcW,List.flatten_cons,WcH,bY,Wdf (by omega),WbR (by omega),Wdg (by omega),WaD (by omega),WcS,ZU c9 λx hx=>h x (by simp [hx])]
theorem zgD(c9:List V)(h:∀ w∈l,w.h.length=32):bY 38 l.length ((l.map cH).flatten++c9)=l.map cH:=by
 have:=ZU c9 (o9 h)
 rwa [WcP] at this
theorem zli(c9:List V)(h:∀ w∈l,w.h.length=32):((l.map cH).flatten++c9).length=l.length*38+c9.length:=by rw [Wde,s8 h]
theorem ZX(c9:List V)(hl:∀ w∈l,w.h.length=32)(h:i<l.length):WcL 38 (WcN (0+(WcM (i:Int))*38) ((l.map cH).flatten++c9))=cH l[i]:=by
 have h1:=s8 hl;have h2:i*38+38<=l.length*38:=by omega
 rw [show 0+(WcM (i:Int))*38=i*38 by simp,Wdg (by omega),Wdf (by rw [List.length_drop]; omega),Ot (o9 hl) (by omega) (eH h),jd (hl _ (WaV h))]
theorem zl1(c9:List V)(hl:∀ w∈l,w.h.length=32)(h:i<l.length)(x:Int):cq ((l.map cH).flatten++c9) ((0+(WcM (i:Int))*38)+37) [V.sc (.int .i64 x)]=((l.set i (spd l[i] x)).map cH).flatten++c9:=by
 have h1:=s8 hl;rw [zf9 (by rw [h1]; simp; omega),zgz hl h]
theorem iY(h:w.h.length=32)(hi:i<32):(cH w)[i]?=some (QQa w.h[i]):=by
 unfold cH;rw [Wan (by rw [im h]; omega),zbo h hi]
theorem zgg(hw:w.h.length=32)(K:Ls->Int->Option Y):(cI .u8 (cH w) 0 λ_=>cI .u8 (cH w) 1 λ_=>cI .u8 (cH w) 2 λ_=>cI .u8 (cH w) 3 λ_=>cI .u8 (cH w) 4 λ_=>cI .u8 (cH w) 5 λ_=>cI .u8 (cH w) 6 λ_=>cI .u8 (cH w) 7 λ_=>cI .u8 (cH w) 8 λ_=>cI .u8 (cH w) 9 λ_=>cI .u8 (cH w) 10 λ_=>cI .u8 (cH w) 11 λ_=>cI .u8 (cH w) 12 λ_=>cI .u8 (cH w) 13 λ_=>cI .u8 (cH w) 14 λ_=>cI .u8 (cH w) 15 λ_=>cI .u8 (cH w) 16 λ_=>cI .u8 (cH w) 17 λ_=>cI .u8 (cH w) 18 λ_=>cI .u8 (cH w) 19 λ_=>cI .u8 (cH w) 20 λ_=>cI .u8 (cH w) 21 λ_=>cI .u8 (cH w) 22 λ_=>cI .u8 (cH w) 23 λ_=>cI .u8 (cH w) 24 λ_=>cI .u8 (cH w) 25 λ_=>cI .u8 (cH w) 26 λ_=>cI .u8 (cH w) 27 λ_=>cI .u8 (cH w) 28 λ_=>cI .u8 (cH w) 29 λ_=>cI .u8 (cH w) 30 λ_=>cI .u8 (cH w) 31 λ_=>cI .u32 (cH w) 32 λ_=>cI .i64 (cH w) 33 λ_=>cL 1 (cH w) 34 λs=>cI .i64 (cH w) 35 λ_=>cB (cH w) 36 λ_=>cI .i64 (cH w) 37 λp=>K s p)=K (eQ .u8 w.an) w.sp:=by
 have hix:(cH w)[32]?=some (QQc w.ix):=by
  unfold cH;rw [Wan (by rw [im hw]; omega),C2 hw]
 rw [dg (iY hw (by omega:0<32)),dg (iY hw (by omega:1<32)),dg (iY hw (by omega:2<32)),dg (iY hw (by omega:3<32)),dg (iY hw (by omega:4<32)),dg (iY hw (by omega:5<32)),dg (iY hw (by omega:6<32)),dg (iY hw (by omega:7<32)),dg (iY hw (by omega:8<32)),dg (iY hw (by omega:9<32)),dg (iY hw (by omega:10<32)),dg (iY hw (by omega:11<32)),dg (iY hw (by omega:12<32)),dg (iY hw (by omega:13<32)),dg (iY hw (by omega:14<32)),dg (iY hw (by omega:15<32)),dg (iY hw (by omega:16<32)),dg (iY hw (by omega:17<32)),dg (iY hw (by omega:18<32)),dg (iY hw (by omega:19<32)),dg (iY hw (by omega:20<32)),dg (iY hw (by omega:21<32)),dg (iY hw (by omega:22<32)),dg (iY hw (by omega:23<32)),dg (iY hw (by omega:24<32)),dg (iY hw (by omega:25<32)),dg (iY hw (by omega:26<32)),dg (iY hw (by omega:27<32)),dg (iY hw (by omega:28<32)),dg (iY hw (by omega:29<32)),dg (iY hw (by omega:30<32)),dg (iY hw (by omega:31<32)),dg hix,dg (f8 hw 0),uD (f8 hw 1),dg (f8 hw 2),PU (f8 hw 3),dg (f8 hw 4)]
theorem zhz(L:Nat){l:List TkT}(hl:l.length<=1000000)(k:Ls->Option Y):bO Y L (l.map f6) k=k (l.map f6):=by
 simp only [bO,mt];cases l with
 | nil=>rfl
 | cons t l=>
  have hl:l.length+1<=1000000:=hl;rw [WbD,zkN,<- WbD,bQ (by simp [cN]; omega),bQ (.inl (by simp)),WcP,DH]
theorem zhS(L:Nat)(hw:∀ w∈l,w.h.length=32)(hl:l.length<=1000000)(k:Ls->Option Y):bN Y L (l.map cH) k=k (l.map cH):=by
 simp only [bN,lN];cases l with
 | nil=>rfl
 | cons t l=>
  have hl:l.length+1<=1000000:=hl;rw [WbD,zkN,<- WbD,bQ (by simp [cN]; omega),bQ (.inl (by simp)),WcP,Ap hw]
theorem zcO(L:Nat){l:List Int}(hl:l.length<=1000000)(k:Ls->Option Y):cU Y L (eQ .u8 l) k=k (eQ .u8 l):=by
 have hc:bY 1 (eQ .u8 l).length (eQ .u8 l).flatten=eQ .u8 l:=DQ λe he=>by
  obtain ⟨x,_,rfl⟩:=WbX.1 he; rfl
 simp only [cU,EW];cases l with
 | nil=>rfl
 | cons x l=>
  show chk _ (chk _ (k (bY 1 (eQ .u8 (x::l)).length (eQ .u8 (x::l)).flatten)))=_;rw [hc,bQ (by
   show (0+(eQ .u8 (x::l)).length)*1<=cN/\0+(eQ .u8 (x::l)).length<=cN;rw [kL]; simp only [cN]; omega),bQ (.inl (by simp))]
theorem zdf{l:List TkT}(h:i<l.length):WcL 3 (WcN (0+(WcM (i:Int))*3) (l.map f6).flatten)=f6 l[i]:=by
 rw [show 0+(WcM (i:Int))*3=i*3 by simp,Ot (tA l) (by omega) (eH h)]; rfl
theorem zkm{l:List TkT}(h:i<l.length):cq (l.map f6).flatten ((0+(WcM (i:Int))*3)+0) [V.sl 1 (eQ .u8 l[i].an)]=(l.map f6).flatten:=by
 rw [show (0+(WcM (i:Int))*3)+0=i*3+0 by simp,Dr (by omega) (tA l) (by omega) (eH h),zp (v:=V.sl 1 (eQ .u8 l[i].an)) (by rfl),zp (eH h)]
theorem zlt(hl:∀ w∈l,w.h.length=32)(h:i<l.length):cq (l.map cH).flatten ((((0+(WcM (i:Int))*38)+0)+33)+1) [V.sl 1 (eQ .u8 l[i].an)]=(l.map cH).flatten:=by
 rw [show (((0+(WcM (i:Int))*38)+0)+33)+1=i*38+34 by simp,Dr (by omega) (o9 hl) (by omega) (eH h),zp (v:=V.sl 1 (eQ .u8 l[i].an)) (f8 (hl _ (WaV h)) 1),zp (eH h)]
theorem Q9{l:List TkT}(hl:∀ t∈l,t.an.length<=1000000)(hn:l.length<=1000000)(L:Nat)(kx:Du Y)(q:Nat)(a b:Ls)(c:List V):∀ (n i:Nat),l.length-i<n ->
  nE bO bN cU L kx n l.length (l.length:Int) (i:Int) l.length q a b (l.map f6).flatten c=kx l.length q a b (l.map f6).flatten c
 | 0,i,hi=>by omega
 | n+1,i,hi=>by
  by_cases h:i<l.length
  ·have h2:(0:Int)<=(i:Int)/\(i:Int)<((l.length:Nat):Int):=by omega
   have hb1:(f6 l[i])[1]?=some (QQe l[i].b):=rfl;have hfl:=KQ l;rw [nE,sC,cY h2.2,bQ h2,bQ (by rw [hfl]; simp; omega),zdf h,bQ (RZ _),k_s,dg hb1,RS,zcO L (hl _ (WaV h)),bQ h2,bQ ⟨rfl,by rw [hfl]; simp; omega⟩,zkm h,cM,cM,up (by omega),Q9 hl hn L kx q a b c n (i+1) (by omega)]
  ·rw [nE,sC,di (by omega)]
theorem Ro{l:List OwT}(hl:∀ w∈l,OwOk w)(hn:l.length<=1000000)(L:Nat)(kx:DD Y)(q:Nat)(a b:Ls)(c:List V):∀ (n i:Nat),l.length-i<n ->
  mS bO bN cU L kx n l.length (l.length:Int) (i:Int) q l.length a b c (l.map cH).flatten=kx q l.length a b c (l.map cH).flatten
 | 0,i,hi=>by omega
 | n+1,i,hi=>by
  by_cases h:i<l.length
  ·have h2:(0:Int)<=(i:Int)/\(i:Int)<((l.length:Nat):Int):=by omega
   have hll:∀ w∈l,w.h.length=32:=λw hw=>(hl w hw).hl;have hw:=hl _ (WaV h);have hs:=hw.l;have hfl:=s8 hll;have hr:=ZX [] hll h;rw [Wdb] at hr;rw [mS,q9,cY h2.2,bQ h2,bQ (by rw [hfl]; simp; omega),hr,bQ (eG hw.hl),zgg hw.hl,zcO L (by omega),bQ h2,bQ ⟨rfl,by rw [hfl]; simp; omega⟩,zlt hll h,cM,cM,up (by omega),Ro hl hn L kx q a b c n (i+1) (by omega)]
  ·rw [mS,q9,di (by omega)]
theorem zgj{s:ScT}(hs:ScW s)(ht:∀ t∈s.tk,t.an.length<=1000000){L:Nat}(hL:2000000<=L)(k:Nat->Nat->List V->List V->Option Y):dc Y L (eU s) k=k s.tk.length s.ow.length (s.tk.map f6).flatten (s.ow.map cH).flatten:=by
 have htl:=hs.tl;have hol:=hs.ol;simp only [dc,Cg,GN];rw [bQ (show (eU s).length=2 from rfl),D6,DP,zhz L (by omega),zhS L (λw hw=>(hs.ow w hw).hl) (by omega),WcP,WcP];refine (Q9 ht (by omega) L _ _ _ _ _ L 0 (by omega)).trans ?_;rw [pt,uK];exact (Ro hs.ow (by omega) L _ _ _ _ _ L 0 (by omega)).trans rfl
end
section
variable {w:OwT}{l:List OwT}{L i:Nat}{s:ScT}
variable {Y:Type}
def rwT(x:Int)(t:TkT):TkT:={ t with r:=HK (Hr t.r x) (Wbf .i64 (t.b-1)) }
def rwO(x:Int)(w:OwT):OwT:=if w.sp>x then spd w 0 else w
def iJ(x:Int)(w:OwT):Bool:=!decide (w.ht>x)
def zg5(x:Int)(s:ScT):ScT:=⟨s.tk.map (rwT x),(s.ow.filter (iJ x)).map (rwO x)⟩
theorem ze9{x:Int}(h:OwOk w):OwOk (rwO x w):=by
 unfold rwO;split
 ·exact ⟨h.hl,h.hb,h.ix,h.s,h.l⟩
 ·exact h
theorem YD(x:Int)(L:Nat)(kx:tU Y)(d:List V)(a b:Ls)(q:Nat)(c:List V):∀ (n i:Nat) (l:List TkT),l.length<=1000000->l.length-i<n ->
  iB cW cm bT dL L kx n x (i:Int) d a b l.length q (l.map f6).flatten c=kx x d a b l.length q (((l.take i)++(l.drop i).map (rwT x)).map f6).flatten c
 | 0,i,l,hn,hi=>by omega
 | n+1,i,l,hn,hi=>by
  by_cases h:i<l.length
  ·have h2:(0:Int)<=(i:Int)/\(i:Int)<((l.length:Nat):Int):=by omega
   have ih:=YD x L kx d a b q c n (i+1) (l.set i (rwT x l[i])) (by simpa using hn) (by simp; omega);rw [Wdc,Mb h,Hv (by omega)] at ih;rw [iB,kX,cY h2.2,bQ h2,dg (zeo h),cM,bQ h2,dg (zdy h),cM,cM,bQ h2,bQ ⟨rfl,by rw [KQ]; simp; omega⟩,Vq h,cM,cM,up (by omega)];refine ih.trans ?_;rw [WaM h,WbD,WcH]; rfl
  ·rw [iB,kX,di (by omega),WbR (by omega),WaD (by omega),Wdw,Wdb]
theorem Gm{l:List OwT}(hl:∀ w∈l,OwOk w)(hn:l.length<=100000)(x:Int)(L:Nat)(kx:Ls->Option Y):∀ (n i:Nat) (acc:List OwT),acc.length<=i->l.length-i<n->i<=l.length ->
  iN L kx n (l.map cH) x (acc.map cH) (i:Int)=kx ((acc++((l.drop i).filter (iJ x)).map (rwO x)).map cH)
 | 0,i,acc,hal,hi,hil=>by omega
 | n+1,i,acc,hal,hi,hil=>by
  by_cases h:i<l.length
  ·have hw:=hl _ (WaV h);rw [iN,kG,WcP,cY (by omega),fj (eH h),jd hw.hl,bQ ⟨eG hw.hl,by omega⟩,Gg hw.hl,cM,dg (f8 hw.hl 2),WaM h];by_cases c1:l[i].ht>x
   ·rw [cY c1,cM,up (by omega),Gm hl hn x L kx n (i+1) acc (by omega) (by omega) (by omega),Wdi (by simp [iJ,c1])]
   have hk:iJ x l[i]=true:=by simp only [iJ,decide_eq_false c1]; rfl
   rw [di c1,dg (f8 hw.hl 4),Wdp hk,WbD];by_cases c2:l[i].sp>x
   ·have ih:=Gm hl hn x L kx n (i+1) (acc++[spd l[i] 0]) (by simp; omega) (by omega) (by omega);have hw2:(spd l[i] 0).h.length=32:=hw.hl;rw [WcU,WcH] at ih;rw [cY c2,bQ ⟨rfl,by rw [eG hw.hl]; omega⟩,zhg hw.hl,cM,show ({ l[i] with sp:=0 }:OwT)=spd l[i] 0 from rfl,bQ (by rw [eG hw2]; omega),jd hw2,bQ ⟨eG hw2,by omega⟩,KY hw2,PS hw2,bQ (by simp [cN]; omega),cM,cM,up (by omega),show rwO x l[i]=spd l[i] 0 from if_pos c2];exact ih
   ·have ih:=Gm hl hn x L kx n (i+1) (acc++[l[i]]) (by simp; omega) (by omega) (by omega);rw [WcU,WcH] at ih;rw [di c2,bQ (by rw [eG hw.hl]; omega),jd hw.hl,bQ ⟨eG hw.hl,by omega⟩,KY hw.hl,PS hw.hl,bQ (by simp [cN]; omega),cM,cM,up (by omega),show rwO x l[i]=l[i] from if_neg c2];exact ih
  ·rw [iN,kG,WcP,di (by omega),WaD (by omega)];simp
theorem zhM(hl:∀ w∈l,OwOk w)(hn:l.length<=100000)(x:Int)(hL:2000000<=L)(k:Ls->Option Y):dL Y L (l.map cH) x k=k (((l.filter (iJ x)).map (rwO x)).map cH):=by
 simp only [dL,wD,BW];exact (Gm hl hn x L _ L 0 [] (by simp) (by omega) (by omega)).trans rfl
def O2(x:Int)(s:ScT):ScT × Int:=if vJ s=true then (if 0<=x/\x<=16777216 then (zg5 x s,0) else (⟨[],[]⟩,5)) else (⟨[],[]⟩,6)
theorem zft(hs:ScW s)(x:Int)(hL:2000000<=L)(k:List V->Int->Option Y):bU Y L (eU s) x k=k (eU (O2 x s).1) (O2 x s).2:=by
 have htl:=hs.tl;have hol:=hs.ol;simp only [bU,n9,pS,s_c,s_d,O2];rw [zaV hs hL];cases vJ s
 ·rfl
 rw [WcQ,eI,if_pos rfl,W7];by_cases c:0<=x/\x<=16777216
 ·rw [if_pos c,decide_eq_true (show x>=0 from c.1),decide_eq_true c.2,cond_true,WcQ,eI,Ai L (by omega) (by omega)];refine (YD x L _ _ _ _ _ _ L 0 s.tk (by omega) (by omega)).trans ?_;rw [nS,s_1,zhM hs.ow (by omega) x hL,Wdu,WcR,WcS,show s.tk.length=(s.tk.map (rwT x)).length by simp,DH];rfl
 ·rw [if_neg c];have:(cond (decide (x>=0)) (decide (x<=16777216)) false)=false:=by
   by_cases c1:x>=0
   ·rw [decide_eq_true c1,cond_true]; exact decide_eq_false (by omega)
   ·rw [decide_eq_false c1]; rfl
  rw [this]; rfl
theorem Lr(x:Int)(L:Nat)(kx:Bo Y)(a b:Ls)(q:Nat)(c:List V):∀ (n i:Nat) (l:List TkT),(∀ t∈l.drop i,1<=t.b/\t.b<=16777216/\t.b-1<=t.r)->l.length<=1000000->l.length-i<n ->
  lP cZ dc bM L kx n l.length (l.length:Int) (i:Int) l.length q x a b (l.map f6).flatten c=kx l.length q x a b (((l.take i)++(l.drop i).map (rwT x)).map f6).flatten c
 | 0,i,l,hb,hn,hi=>by omega
 | n+1,i,l,hb,hn,hi=>by
  by_cases h:i<l.length
  ·have h2:(0:Int)<=(i:Int)/\(i:Int)<((l.length:Nat):Int):=by omega
   have hb1:(f6 l[i])[1]?=some (QQe l[i].b):=rfl;have hfl:=KQ l;rw [WaM h] at hb ⊢;have hbi:=hb l[i] (Wcz ..);have hw:=lp (n:=l[i].b-1) (by omega) (by omega);rw [lP,pu,cY h2.2,bQ h2,bQ (by rw [hfl]; simp; omega),zdf h,bQ (RZ _),k_s,dg hb1,RS];by_cases c1:l[i].r>x
   ·have ih:=Lr x L kx a b q c n (i+1) (l.set i (rwT x l[i])) (by rw [Hv (by omega)]; exact λt ht=>hb t (WcC _ ht)) (by simpa using hn) (by simp; omega);rw [Wdc,Mb h,Hv (by omega),WcH] at ih;have e:HK x (Wbf .i64 (l[i].b-1))=(rwT x l[i]).r:=by
     show _=HK (Hr l[i].r x) (Wbf .i64 (l[i].b-1));rw [show Hr l[i].r x=x by unfold Hr; split <;> omega]
    rw [cY c1,cM,cM,bQ h2,bQ ⟨rfl,by rw [hfl]; simp; omega⟩,Vq h,cM,cM,up (by omega),e];exact ih
   ·have ih:=Lr x L kx a b q c n (i+1) l (λt ht=>hb t (WcC _ ht)) hn (by omega);have e:rwT x l[i]=l[i]:=by
     have:HK (Hr l[i].r x) (Wbf .i64 (l[i].b-1))=l[i].r:=by
      rw [hw]; unfold HK Hr; split <;> split <;> omega
     unfold rwT; rw [this]
    rw [di c1,cM,up (by omega),ih,WbD,e,Wdd h,WcH]; rfl
  ·rw [lP,pu,di (by omega),WbR (by omega),WaD (by omega),Wdw,Wdb]
theorem zf0(h:w.h.length=32)(L:Nat)(x:Int)(k:Bool->Int->Option Y):ch Y L (cH w) x k=k (!iJ x w) x:=by
 simp only [ch,Bf,iJ,Bool.not_not];rw [dg (f8 h 2)]
theorem zaA(hl:∀ w∈l,w.h.length=32)(h:i<l.length):WcL 38 (WcN (0+(WcM (i:Int))*38) (l.map cH).flatten)=cH l[i]:=by
 have:=ZX [] hl h
 rwa [Wdb] at this
theorem Uj{l:List OwT}(hl:∀ w∈l,w.h.length=32)(hn:l.length<=1000000)(x:Int)(L:Nat)(kr:Int->List V->Int->Option Y)(kx:List V->Int->Option Y):∀ (n i:Nat),l.length-i<n ->
  fP ch L kr kx n l.length (l.length:Int) (i:Int) (l.map cH).flatten x=ifb (decide (gF (λw=>!iJ x w) (l.drop i) i>=0)) (kr (gF (λw=>!iJ x w) (l.drop i) i) (l.map cH).flatten x) (kx (l.map cH).flatten x)
 | 0,i,hi=>by omega
 | n+1,i,hi=>by
  by_cases h:i<l.length
  ·have h2:(0:Int)<=(i:Int)/\(i:Int)<((l.length:Nat):Int):=by omega
   have hfl:=s8 hl;rw [fP,iw,cY h2.2,bQ h2,bQ (by rw [hfl]; simp; omega),zaA hl h,rL,zf0 (hl _ (WaV h)),cM,up (by omega),Uj hl hn x L kr kx n (i+1) (by omega),WaM h,gF];cases hk:!iJ x l[i] with
   | true=>rw [ii,if_pos rfl,cY (by omega)]
   | false=>rw [eI,if_neg (by simp)]
  ·rw [fP,iw,di (by omega),WaD (by omega),di (by simp [gF])]
theorem zil(hl:∀ w∈l,w.h.length=32)(hn:l.length<=1000000)(x:Int)(hL:2000000<=L)(k:Int->List V->Int->Option Y):bS Y L l.length (l.map cH).flatten x k=k (gF (λw=>!iJ x w) l 0) (l.map cH).flatten x:=by
 simp only [bS,i7,kj];refine (Uj hl hn x L _ _ L 0 (by omega)).trans ?_;rw [WcR];rcases qW (λw=>!iJ x w) l 0 with ⟨e,_⟩ | ⟨i,hi,e,_⟩
 ·rw [e,di (by omega)]; rfl
 ·rw [e,cY (by omega)]; rfl
theorem zlk(hl:∀ w∈l,w.h.length=32)(h:i<l.length)(hw:w.h.length=32):cq (l.map cH).flatten (0+(WcM (i:Int))*38) (cH w)=((l.set i w).map cH).flatten:=by
 have e1:(l.map cH).flatten.take (i*38)=((l.map cH).take i).flatten:=ML (o9 hl) i;have e2:(l.map cH).flatten.drop ((i+1)*38)=((l.map cH).drop (i+1)).flatten:=OZ (o9 hl) (i+1);unfold cq;rw [show 0+(WcM (i:Int))*38=i*38 by simp,eG hw,show i*38+38=(i+1)*38 by omega,e1,e2,Wdx,List.set_eq_take_append_cons_drop,if_pos (by simpa using h),Wbc,List.flatten_cons,WcH]
theorem Su(x:Int)(L:Nat)(kx:Nat->Int->List V->Int->Option Y)(M:Nat)(hM:M<=1000000):∀ (n i p:Nat) (l:List OwT),(∀ w∈l,w.h.length=32)->l.length=M->p<i->i<=M->M-i<n ->
  ∃ A:List OwT,(∀ w∈A,w.h.length=32)/\A.length=M/\p+((l.drop i).filter (iJ x)).length<=M/\A.take (p+((l.drop i).filter (iJ x)).length)=l.take p++(l.drop i).filter (iJ x) /\
  dV bS ch L kx n M (p:Int) (i:Int) (l.map cH).flatten x=kx M ((p+((l.drop i).filter (iJ x)).length:Nat):Int) (A.map cH).flatten x
 | 0,i,p,l,hl,hlM,hp,hi,hn=>by omega
 | n+1,i,p,l,hl,hlM,hp,hi,hn=>by
  by_cases h:i<M
  ·have hil:i<l.length:=by omega
   have hpl:p<l.length:=by omega
   have h2:(0:Int)<=(i:Int)/\(i:Int)<((M:Nat):Int):=by omega
   have hfl:=s8 hl;have hwl:=hl _ (WaV hil);have step:dV bS ch L kx (n+1) M (p:Int) (i:Int) (l.map cH).flatten x=ifb (iJ x l[i]) (dV bS ch L kx n M ((p+1:Nat):Int) ((i+1:Nat):Int) ((l.set p l[i]).map cH).flatten x) (dV bS ch L kx n M (p:Int) ((i+1:Nat):Int) (l.map cH).flatten x):=by
    rw [dV,hF,cY h2.2,bQ h2,bQ (by rw [hfl]; simp; omega),zaA hl hil,bQ ⟨eG hwl,by omega⟩,Gg hwl,cM,bQ (by rw [eG hwl]; omega),jd hwl,rL,zf0 hwl,Bool.not_not,bQ (by rw [eG hwl]; omega),bQ (by omega),bQ ⟨eG hwl,by rw [hfl]; simp; omega⟩,zlk hl hpl hwl,cM,cM,up (by omega),cM,up (by omega),cM]
   rw [step,WaM hil];cases hk:iJ x l[i] with
   | true=>
    obtain ⟨A,g1,g2,g3,g4,g5⟩:=Su x L kx M hM n (i+1) (p+1) (l.set p l[i]) (λw hw=>by
     rcases WcT hw with q | rfl
     ·exact hl _ q
     ·exact hwl) (by simpa using hlM) (by omega) (by omega) (by omega)
    rw [Hv (by omega)] at g3 g4 g5;rw [Mb hpl,WcH] at g4;rw [Wdp hk,WcW,show p+(((l.drop (i+1)).filter (iJ x)).length+1)=p+1+((l.drop (i+1)).filter (iJ x)).length by omega];exact ⟨A,g1,g2,g3,g4,g5⟩
   | false=>
    obtain ⟨A,g1,g2,g3,g4,g5⟩:=Su x L kx M hM n (i+1) p l hl hlM (by omega) (by omega) (by omega);rw [Wdi (by simp [hk])];exact ⟨A,g1,g2,g3,g4,g5⟩
  ·refine ⟨l,hl,hlM,?_,?_,?_⟩
   ·rw [WaD (by omega)]; simp; omega
   ·rw [WaD (by omega)]; simp
   ·rw [dV,hF,di (by omega),WaD (by omega)]; simp
def z38:List V:=Wad 32 (QQa (0:Int))++[(QQc (0:Int)),(QQe (0:Int)),(V.sl 1 ([]:Ls)),(QQe (0:Int)),(V.sc (.bool false)),(QQe (0:Int))]
theorem zlv(hl:∀ w∈l,w.h.length=32)(hn:l.length<=1000000)(x:Int)(hL:2000000<=L)(k:Nat->List V->Int->Option Y):∃ c9:List V,c9.length=(l.length-(l.filter (iJ x)).length)*38/\bM Y L l.length (l.map cH).flatten x k=k (l.filter (iJ x)).length (((l.filter (iJ x)).map cH).flatten++c9) x:=by
 simp only [bM,iW,kg];rw [zil hl hn x hL,bQ rfl];rcases qW (λw=>!iJ x w) l 0 with ⟨e,h0⟩ | ⟨i,hi,e,h1,h3⟩
 ·have:l.filter (iJ x)=l:=WbU.2 λw hw=>by simpa using h0 w hw
  exact ⟨[],by rw [this]; simp,by rw [e,eW rfl,this,Wdb]⟩
 ·rw [Wau] at e;have hi1:i+1<=l.length:=hi;obtain ⟨A,g1,g2,g3,g4,g5⟩:=Su x L (λp0l p5 b0 b1_0=>gR bS ch L p0l p5 b0 b1_0 k) l.length hn L (i+1) i l hl rfl (by omega) (by omega) (by omega);have hf:l.filter (iJ x)=l.take i++(l.drop (i+1)).filter (iJ x):=by
   have e1:l.take i=(l.take i).filter (iJ x):=(WbU.2 λw hw=>by simpa using h1 w hw).symm;have e2:l=l.take i++l[i]::l.drop (i+1):=by rw [<- WaM hi,Wcx]
   conv=>lhs; rw [e2,List.filter_append,Wdi (by simpa using h3),<- e1]
  have hlen:i+((l.drop (i+1)).filter (iJ x)).length=(l.filter (iJ x)).length:=by rw [hf,Wde,Wci,Nat.min_eq_left (by omega)]
  rw [<- hf,hlen] at g4;rw [hlen] at g3 g5;generalize hm:l.filter (iJ x)=m at *
  refine ⟨(Wad (l.length-m.length) z38).flatten,by simp [z38],?_⟩;rw [e,dT (by omega),cM,up (by omega)];refine g5.trans ?_;rw [gR,bQ (by omega),cM,bQ (by omega),Int.toNat_natCast,Nat.sub_zero];have e3:(A.map cH).flatten.take (m.length*38)=(m.map cH).flatten:=by rw [ML (o9 g1),<- List.map_take,g4]
  have e4:cq (A.map cH).flatten (0+m.length*38) (Wad (l.length-m.length) z38).flatten=(m.map cH).flatten++(Wad (l.length-m.length) z38).flatten:=by
   unfold cq;rw [Wau,e3,WaD (by rw [s8 g1,g2]; simp [z38]; omega),Wdb]
  exact congrArg (λr=>k m.length r x) e4
theorem Ln(x:Int)(L:Nat)(kx:BS Y)(a b:Ls)(q:Nat)(c c9:List V):∀ (n i:Nat) (l:List OwT),(∀ w∈l,OwOk w)->l.length<=1000000->l.length-i<n ->
  jI cZ dc bM L kx n l.length (l.length:Int) (i:Int) q l.length x a b c ((l.map cH).flatten++c9)=kx q l.length x a b c (((l.take i++(l.drop i).map (rwO x)).map cH).flatten++c9)
 | 0,i,l,hl,hn,hi=>by omega
 | n+1,i,l,hl,hn,hi=>by
  by_cases h:i<l.length
  ·have h2:(0:Int)<=(i:Int)/\(i:Int)<((l.length:Nat):Int):=by omega
   have hll:∀ w∈l,w.h.length=32:=λw hw=>(hl w hw).hl;have hw:=hl _ (WaV h);have hfl:=zli c9 hll;rw [jI,oF,cY h2.2,bQ h2,bQ (by rw [hfl]; simp; omega),ZX c9 hll h,bQ (eG hw.hl),zgg hw.hl,WaM h];by_cases c1:l[i].sp>x
   ·have ih:=Ln x L kx a b q c c9 n (i+1) (l.set i (spd l[i] 0)) (zbd hl h 0) (by simpa using hn) (by simp; omega);rw [Wdc,Mb h,Hv (by omega),WcH] at ih;rw [cY c1,bQ h2,bQ ⟨rfl,by rw [hfl]; simp; omega⟩,zl1 c9 hll h,cM,cM,up (by omega),WbD,show rwO x l[i]=spd l[i] 0 from if_pos c1];exact ih
   ·have ih:=Ln x L kx a b q c c9 n (i+1) l hl hn (by omega);rw [di c1,cM,up (by omega),ih,WbD,show rwO x l[i]=l[i] from if_neg c1,Wdd h,WcH]; rfl
  ·rw [jI,oF,di (by omega),WbR (by omega),WaD (by omega),Wdw,Wdb]
theorem zdN(hs:ScW s)(x:Int)(hL:2000000<=L)(k:List V->Int->Option Y):cF Y L (eU s) x k=k (eU (O2 x s).1) (O2 x s).2:=by
 have htl:=hs.tl;have hol:=hs.ol;simp only [cF,zc,EY,O2];rw [bQ (show (eU s).length=2 from rfl),D6,DP,show ∀ k:Bool->Option Y,cZ Y L [(V.sl 3 (s.tk.map f6)),(V.sl 38 (s.ow.map cH))] k=k (vJ s) from zfw hs (by omega)];cases hsd:vJ s
 ·rfl
 rw [WcQ,eI,if_pos rfl];by_cases c1:x<0
 ·rw [cY c1,if_neg (by omega)]; rfl
 by_cases c2:x>16777216
 ·rw [di c1,cY c2,if_neg (by omega)]; rfl
 rw [di c1,di c2,if_pos (by omega)];have hta:=LW (s:=s) (l:=s.tk) (i:=0) (by
  simp only [vJ,WaG] at hsd; exact hsd.2.2.2.1)
 have hll:∀ w∈s.ow,w.h.length=32:=λw hw=>(hs.ow w hw).hl;rw [show ∀ k:Nat->Nat->List V->List V->Option Y,dc Y L [(V.sl 3 (s.tk.map f6)),(V.sl 38 (s.ow.map cH))] k=k s.tk.length s.ow.length (s.tk.map f6).flatten (s.ow.map cH).flatten from zgj hs (λt ht=>by have:=hta t ht; omega) hL];refine (Lr x L _ _ _ _ _ L 0 s.tk (λt ht=>by have:=hta t (by simpa using ht); omega) (by omega) (by omega)).trans ?_;rw [nT,rO,Wdu,WcR,WcS];obtain ⟨c9,hZ,hd⟩:=zlv (Y:=Y) hll (by omega) x hL (λv15 v16 v17=>chk ([(WcK v16),1]=[(WcK (s.ow.map cH).flatten),1]) (jI cZ dc bM L (λb2_0l b2_1l b3_0 b4_0 b4_1 b12 b15=>nx cZ dc bM L b2_0l b2_1l b3_0 b4_0 b4_1 b12 b15 k) L v15 ((v15:Nat):Int) (0:Int) s.tk.length v15 v17 [] [] (((s.tk.map (rwT x)).map f6).flatten) v16));refine hd.trans ?_;have hle:=Wdt (iJ x) s.ow;have hmk:∀ w∈s.ow.filter (iJ x),OwOk w:=λw hw=>hs.ow w (List.mem_filter.1 hw).1;rw [bQ (by rw [Wde,s8 λw hw=>(hmk w hw).hl,s8 hll,hZ,<- Nat.add_mul,show (s.ow.filter (iJ x)).length+(s.ow.length-(s.ow.filter (iJ x)).length)=s.ow.length by omega])];refine (Ln x L _ _ _ _ _ c9 L 0 _ hmk (by omega) (by omega)).trans ?_;have hmo:∀ w∈(s.ow.filter (iJ x)).map (rwO x),w.h.length=32:=λw hw=>by
  obtain ⟨v,hv,rfl⟩:=WbX.1 hw;exact (ze9 (hmk v hv)).hl
 rw [nx,Wdu,WcR,WcS,show s.tk.length=(s.tk.map (rwT x)).length by simp,DH,show (s.ow.filter (iJ x)).length=((s.ow.filter (iJ x)).map (rwO x)).length by simp,zgD c9 hmo];rfl
end
section
variable {w:OwT}{l:List OwT}{L i:Nat}{s:ScT}
variable {Y:Type}
theorem T6(h:w.h.length=32)(j:Nat):(crw w)[33+j]?=[V.sc (.int .i64 w.val),V.sl 1 (eQ .u8 w.an),V.sc (.int .i64 w.ht),V.sc (.bool w.cb)][j]?:=by
 unfold crw;rw [List.getElem?_append_right (by rw [im h]; omega),im h,Wdq]
theorem zhu(hw:OwOk w)(L:Nat)(k:Bool->Option Y):dp Y L (crw w) (crw w) k=k true:=by
 have hl:=hw.hl;have hc:=zj6 hl;have e:WcL 2 (WcN 33 (crw w))=[V.sc (.int .i64 w.val),V.sl 1 (eQ .u8 w.an)]:=by
  unfold crw; rw [<- im hl,List.drop_left]; rfl
 simp only [dp,zO];rw [bQ (by omega),bQ (by omega),zgZ hl,Ha hl hl,show xa w w=true by simp [xa],ii,bQ (by omega),bQ (by omega),e,show List.map V.ag [V.sc (.int .i64 w.val),V.sl 1 (eQ .u8 w.an)]=[V.sc (.int .i64 w.val),V.sl 1 (eQ .u8 w.an)] from rfl];simp only [gK,AK,dv,AY];have hv:([V.sc (.int .i64 w.val),V.sl 1 (eQ .u8 w.an)]:List V)[0]?=some (QQe w.val):=rfl;have hs:([V.sc (.int .i64 w.val),V.sl 1 (eQ .u8 w.an)]:List V)[1]?=some (V.sl 1 (eQ .u8 w.an)):=rfl;rw [dg hv,dg hv,eW rfl,jZ hs,jZ hs,qP,qP,VE hw.s hw.s,decide_eq_true rfl,ii,dg (T6 hl 2),dg (T6 hl 2),eW rfl,PU (T6 hl 3),PU (T6 hl 3)];cases w.cb <;> rfl
theorem zcI{l:List OwT}(hl:∀ w∈l,OwOk w)(hn:l.length<=1000000)(L:Nat)(kr:Bool->Option Y)(kx:Option Y):∀ (n i:Nat),l.length-i<n ->
  kn dp L kr kx n (l.map cH) (l.map cH) (i:Int)=kx
 | 0,i,hi=>by omega
 | n+1,i,hi=>by
  by_cases h:i<l.length
  ·have hw:=hl _ (WaV h);have h37:(WcN 37 (cH l[i]))[0]?=some (QQe l[i].sp):=by rw [Waj]; exact f8 hw.hl 4
   rw [kn,oG,WcP,cY (by omega),fj (eH h),dg h37,fj (eH h),dg h37,ip,if_pos rfl,fj (eH h),fj (eH h),zkn hw.hl,zjl,zhu hw,WcQ,eI,cM,up (by omega),zcI hl hn L kr kx n (i+1) (by omega)]
  ·rw [kn,oG,WcP,di (by omega)]
theorem zfn(hl:∀ w∈l,OwOk w)(hn:l.length<=1000000)(hL:2000000<=L)(k:Bool->Option Y):dh Y L (l.map cH) (l.map cH) k=k true:=by
 simp only [dh,sr,yu];rw [ip,if_pos rfl];exact (zcI hl hn L _ _ L 0 (by omega)).trans rfl
theorem zcJ{s:ScT}(hs:ScW s)(L:Nat)(kr:Bool->Option Y)(kx:Option Y):∀ (n i:Nat),s.tk.length-i<n ->
  nF dh L kr kx n (i:Int) (eU s) (eU s)=kx
 | 0,i,hi=>by omega
 | n+1,i,hi=>by
  have htl:=hs.tl;by_cases h:i<s.tk.length
  ·have hb:=hs.tk _ (WaV h);have h1:(WcN 1 (f6 s.tk[i]))[0]?=some (QQe s.tk[i].b):=rfl;rw [nF,sE,s_0,WcP,cY (by omega),s_0,fj (eH h),k_s,qP,s_0,fj (eH h),k_s,qP,VE hb hb,decide_eq_true rfl,WcQ,eI,s_0,fj (eH h),dg h1,s_0,fj (eH h),dg h1,ip,if_pos rfl,s_0,fj (eH h),k_r,s_0,fj (eH h),k_r,ip,if_pos rfl,cM,up (by omega),zcJ hs L kr kx n (i+1) (by omega)]
  ·rw [nF,sE,s_0,WcP,di (by omega)]
theorem zlN(hs:ScW s)(hL:2000000<=L)(k:Bool->Option Y):cS Y L (eU s) (eU s) k=k true:=by
 have htl:=hs.tl;have hol:=hs.ol;simp only [cS,A6,GX];rw [s_0,s_0,ip,if_pos rfl,s_1,s_1,zfn hs.ow (by omega) hL,WcQ,eI];exact (zcJ hs L _ _ L 0 (by omega)).trans rfl
theorem zki(hs:ScW s)(x:Int):ScW (O2 x s).1:=by
 have htl:=hs.tl;have hol:=hs.ol;unfold O2;have z:ScW ⟨[],[]⟩:=⟨by simp,by simp,by simp,by simp⟩;split
 ·split
  ·refine ⟨λt ht=>?_,by simp only [zg5,WcP]; omega,λw hw=>?_,?_⟩
   ·obtain ⟨u,hu,rfl⟩:=WbX.1 ht;exact hs.tk u hu
   ·obtain ⟨v,hv,rfl⟩:=WbX.1 hw;exact ze9 (hs.ow v (List.mem_filter.1 hv).1)
   ·have:=Wdt (iJ x) s.ow;simp only [zg5,WcP]; omega
  ·exact z
 ·exact z
theorem zhK(hl:∀ w∈l,w.h.length=32)(h:i<l.length)(j:Nat)(hj:j<5)(x:V)(v:OwT)(hp:ic v=ic l[i])(e:(Gj l[i]).set j x=Gj v):cq (l.map cH).flatten (i*38+(33+j)) [x]=((l.set i v).map cH).flatten:=by
 have hw:=hl _ (WaV h);have e2:(cH l[i]).set (33+j) x=cH v:=by
  unfold cH;rw [List.set_append_right _ _ (by rw [im hw]; omega),im hw,Wdq,e,hp]
 rw [Dr (by omega) (o9 hl) (by omega) (eH h),e2,Wdx]
theorem Mf(hl:∀ w∈l,OwOk w)(hw:OwOk w):∀ v∈l.set i w,OwOk v:=λv hv=>by
 rcases WcT hv with h | rfl
 ·exact hl v h
 ·exact hw
theorem Jk(h:∀ v∈l.set i w,OwOk v):bY 38 l.length ((l.set i w).map cH).flatten=(l.set i w).map cH:=by
 have:=Ap (l:=l.set i w) λv hv=>(h v hv).hl
 rwa [Wdc] at this
theorem zky(p1 p2:Int){ow:List OwT}(hw:∀ w∈ow,OwOk w)(hn:ow.length<=5000):∃ ow':List OwT,(∀ w∈ow',OwOk w)/\ow'.length<=ow.length+1/\∀ (L n:Nat) (T:List V) (Y:Type) (k:List V->Option Y),i5 bT ca L p1 p2 n ow.length [] [] T (ow.map cH).flatten k=k [V.sl 3 (bY 3 n T),V.sl 38 (ow'.map cH)]:=by
 have hll:∀ w∈ow,w.h.length=32:=λw h=>(hw w h).hl;have hfl:=s8 hll;obtain ⟨r1,a1,a2,e1⟩:=Da p1 6 (by omega) (by omega);by_cases h0:ow.length=0
 ·refine ⟨ow,hw,by omega,λL n T Y k=>?_⟩;rw [i5,di (by omega),Ap hll]
 by_cases h3:r1>3;rotate_left
 ·refine ⟨ow,hw,by omega,λL n T Y k=>?_⟩;rw [i5,cY (by omega),e1,di h3,Ap hll]
 obtain ⟨r2,b1,b2,e2⟩:=Da p2 ((ow.length:Nat):Int) (by omega) (by omega);obtain ⟨j,rfl⟩:=Wdr b1;have hj:j<ow.length:=by omega
 have hwj:=hw _ (WaV hj);obtain ⟨r3,_,_,e3⟩:=Da p2 4 (by omega) (by omega);by_cases c0:r3=0
 ·have ok:OwOk { ow[j] with ht:=99 }:=⟨hwj.hl,hwj.hb,hwj.ix,hwj.s,hwj.l⟩;have hs:=Mf hw (i:=j) ok;refine ⟨ow.set j { ow[j] with ht:=99 },hs,by simp,λL n T Y k=>?_⟩;rw [i5,cY (by omega),e1,cY h3,e2,bQ ⟨by omega,by omega⟩,e3,eW c0,bQ ⟨rfl,by rw [hfl]; simp; omega⟩,show (((0+(WcM (j:Int))*38)+0)+35)=j*38+(33+2) by simp,zhK hll hj 2 (by omega) _ { ow[j] with ht:=99 } rfl rfl,cM,Jk hs]
 by_cases c1:r3=1
 ·have ok:OwOk { ow[j] with sp:=99 }:=⟨hwj.hl,hwj.hb,hwj.ix,hwj.s,hwj.l⟩;have hs:=Mf hw (i:=j) ok;refine ⟨ow.set j { ow[j] with sp:=99 },hs,by simp,λL n T Y k=>?_⟩;rw [i5,cY (by omega),e1,cY h3,e2,bQ ⟨by omega,by omega⟩,e3,dT c0,eW c1,bQ ⟨rfl,by rw [hfl]; simp; omega⟩,show ((0+(WcM (j:Int))*38)+37)=j*38+(33+4) by simp,zhK hll hj 4 (by omega) _ { ow[j] with sp:=99 } rfl rfl,cM,Jk hs]
 by_cases c2:r3=2
 ·have ok:OwOk { ow[j] with an:=[9,9] }:=⟨hwj.hl,hwj.hb,hwj.ix,by intro n hn; simp at hn; omega,by simp⟩;have hs:=Mf hw (i:=j) ok;refine ⟨ow.set j { ow[j] with an:=[9,9] },hs,by simp,λL n T Y k=>?_⟩;rw [i5,cY (by omega),e1,cY h3,e2,bQ ⟨by omega,by omega⟩,e3,dT c0,dT c1,eW c2,bQ ⟨rfl,by rw [hfl]; simp; omega⟩,show ((((0+(WcM (j:Int))*38)+0)+33)+1)=j*38+(33+1) by simp,zhK hll hj 1 (by omega) (V.sl 1 (bY 1 2 [(QQa (9:Int)),(QQa (9:Int))])) { ow[j] with an:=[9,9] } rfl rfl,cM,Jk hs]
 ·have hs:∀ v∈ow++[ow[j]],OwOk v:=λv hv=>(Wbt.1 hv).elim (hw v) λh=>(WcG.1 h) ▸ hwj;refine ⟨ow++[ow[j]],hs,by simp,λL n T Y k=>?_⟩;have hc:=Ap (l:=ow++[ow[j]]) λv hv=>(hs v hv).hl;have e4:WcL (ow.length*38) (ow.map cH).flatten++List.flatten [cH ow[j]]=((ow++[ow[j]]).map cH).flatten:=by rw [WbR (by omega),WcU,Wbc]; rfl
  rw [Wde,Wdh] at hc;rw [i5,cY (by omega),e1,cY h3,e2,bQ ⟨by omega,by omega⟩,e3,dT c0,dT c1,dT c2,bQ (by rw [hfl]; simp; omega),zaA hll hj,bQ ⟨eG hwj.hl,by omega⟩,KY hwj.hl,PS hwj.hl,bQ (by simp [cN]; omega),cM,e4,Wdh,hc]
theorem qv1(G1:dI)(G2:eB)(L:Nat)(p1 p2:Int)(n m:Nat)(a b:Ls)(c:Nat)(d T:List V)(k:List V->Option Y):yA G1 G2 L p1 p2 n m a b c d T k=i5 G1 G2 L p1 p2 n m a b T d k:=rfl
theorem qv2(G1:dI)(G2:eB)(L:Nat)(q:List V)(p1 p2:Int)(r:List V)(t u v:Nat)(w:Int)(x:Bool)(n m:Nat)(a b:Ls)(T d:List V)(k:List V->Option Y):xS G1 G2 L q p1 p2 r t u v w x n m a b T d k=i5 G1 G2 L p1 p2 n m a b T d k:=rfl
theorem zkv{l:List TkT}(h:i<l.length){j:Nat}(hj:j<3){v:V}{t:TkT}(e:(f6 l[i]).set j v=f6 t):cq (l.map f6).flatten ((0+(WcM (i:Int))*3)+j) [v]=((l.set i t).map f6).flatten:=by
 rw [show (0+(WcM (i:Int))*3)+j=i*3+j by simp,Dr (by omega) (tA l) hj (eH h),e,Wdx]
theorem zg6(hs:ScOk s)(p1 p2:Int):∃ s':ScT,ScW s'/\∀ (L:Nat) (Y:Type) (k:List V->Option Y),cy Y L (eU s) p1 p2 k=k (eU s'):=by
 have htl:=hs.tl;have hol:=hs.ol;have hw:=hs.weak;obtain ⟨ow,q1,q2,q3⟩:=zky p1 p2 hs.ow (by omega);obtain ⟨r1,a1,a2,e1⟩:=Da p1 6 (by omega) (by omega);have hfl:=KQ s.tk;have fin:∀ tk:List TkT,(∀ t∈tk,ed t.an)->tk.length<=1001->(∀ (L:Nat) (Y:Type) (k:List V->Option Y),cy Y L (eU s) p1 p2 k=i5 bT ca L p1 p2 tk.length s.ow.length [] [] (tk.map f6).flatten (s.ow.map cH).flatten k)->∃ s':ScT,ScW s'/\∀ (L:Nat) (Y:Type) (k:List V->Option Y),cy Y L (eU s) p1 p2 k=k (eU s'):=by
  intro tk h1 h2 h;refine ⟨⟨tk,ow⟩,⟨h1,by show tk.length<=100000; omega,q1,by show ow.length<=90000; omega⟩,λL Y k=>?_⟩;rw [h L Y k,q3,DH]; rfl
 have setb:∀ (j:Nat) (t:TkT),ed t.an->∀ u∈s.tk.set j t,ed u.an:=λj t ht u hu=>by
  rcases WcT hu with h | rfl
  ·exact hw.tk u h
  ·exact ht
 have start:∀ (L:Nat) (Y:Type) (k:List V->Option Y),cy Y L (eU s) p1 p2 k=cy Y L (eU s) p1 p2 k:=λ_ _ _=>rfl;by_cases h0:s.tk.length=0
 ·refine fin s.tk hw.tk (by omega) λL Y k=>?_;simp only [cy,mE,nL];rw [bQ (show (eU s).length=2 from rfl),D6,DP,show ∀ k:Nat->Nat->List V->List V->Option Y,bT Y L [(V.sl 3 (s.tk.map f6)),(V.sl 38 (s.ow.map cH))] k=k s.tk.length s.ow.length (s.tk.map f6).flatten (s.ow.map cH).flatten from Ai L (by omega) (by omega),di (by omega),qv2]
 obtain ⟨r2,b1,b2,e2⟩:=Da p2 ((s.tk.length:Nat):Int) (by omega) (by omega);obtain ⟨j,rfl⟩:=Wdr b1;have hj:j<s.tk.length:=by omega
 have hbj:=hw.tk _ (WaV hj);have cop:∀ (L:Nat) (Y:Type) (k:Nat->Nat->List V->List V->Option Y),bT Y L [(V.sl 3 (s.tk.map f6)),(V.sl 38 (s.ow.map cH))] k=k s.tk.length s.ow.length (s.tk.map f6).flatten (s.ow.map cH).flatten:=λL Y k=>Ai L (by omega) (by omega) k;by_cases c0:r1=0
 ·refine fin (s.tk.set j { s.tk[j] with r:=Wbf .i64 (s.tk[j].b-2) }) (setb _ _ hbj) (by simp; omega) λL Y k=>?_;simp only [cy,mE,nL];rw [bQ (show (eU s).length=2 from rfl),D6,DP,cop,cY (by omega),e2,bQ ⟨by omega,by omega⟩,e1,eW c0,dg (zdy hj),cM,bQ ⟨trivial,by rw [hfl]; simp; omega⟩,Vq hj,cM,Wdc]
 by_cases c1:r1=1
 ·refine fin (s.tk.set j { s.tk[j] with b:=0 }) (setb _ _ hbj) (by simp; omega) λL Y k=>?_;simp only [cy,mE,nL];rw [bQ (show (eU s).length=2 from rfl),D6,DP,cop,cY (by omega),e2,bQ ⟨by omega,by omega⟩,e1,dT c0,eW c1,bQ ⟨trivial,by rw [hfl]; simp; omega⟩,zkv (t:={ s.tk[j] with b:=0 }) hj (by omega) rfl,cM,Wdc]
 by_cases c2:r1=2
 ·refine fin (s.tk.set j { s.tk[j] with an:=[] }) (setb _ _ (by intro n hn; cases hn)) (by simp; omega) λL Y k=>?_;simp only [cy,mE,nL];rw [bQ (show (eU s).length=2 from rfl),D6,DP,cop,cY (by omega),e2,bQ ⟨by omega,by omega⟩,e1,dT c0,dT c1,eW c2,bQ ⟨trivial,by rw [hfl]; simp; omega⟩,zkv (t:={ s.tk[j] with an:=[] }) hj (by omega) rfl,cM,Wdc]
 by_cases c3:r1=3
 ·refine fin (s.tk++[s.tk[j]]) (λu hu=>(Wbt.1 hu).elim (hw.tk u) λh=>(WcG.1 h) ▸ hbj) (by simp; omega) λL Y k=>?_;have e3:bY 3 1 (cq [(V.sl 1 ([]:Ls)),(QQe (0:Int)),(QQe (0:Int))] 0 (f6 s.tk[j]))=[f6 s.tk[j]]:=rfl;have e4:WcL (s.tk.length*3) (s.tk.map f6).flatten++List.flatten [f6 s.tk[j]]=((s.tk++[s.tk[j]]).map f6).flatten:=by rw [WbR (by omega),WcU,Wbc]; rfl
  simp only [cy,mE,nL];rw [bQ (show (eU s).length=2 from rfl),D6,DP,cop,cY (by omega),e2,bQ ⟨by omega,by omega⟩,e1,dT c0,dT c1,dT c2,eW c3,bQ (by rw [hfl]; simp; omega),zdf hj,bQ ⟨RZ _,by omega⟩,e3,bQ (by simp [cN]; omega),cM,e4,qv1,Wdh,Wde,Wdh]
 ·refine fin s.tk hw.tk (by omega) λL Y k=>?_;simp only [cy,mE,nL];rw [bQ (show (eU s).length=2 from rfl),D6,DP,cop,cY (by omega),e2,bQ ⟨by omega,by omega⟩,e1,dT c0,dT c1,dT c2,dT c3]
end
section
variable {Y:Type}
theorem YL{s:ScT}(hs:ScW s){b:List V}(hb:Rp b s){L:Nat}(hL:2000000<=L){ts:List Int}(hts:ts.length<=1000)(kr:Bool->Ls->Int->Option Y)(kx:sJ Y)(p1:Int)(p32:Ls)(p33 p34:Int)(p:Ls)(q:Int):∀ (n i:Nat),ts.length-i<n ->
  gV cT dm cP cR cy ca cF bU cS L kr kx n p1 p32 p33 p34 (eQ .i64 ts) (ts.length:Int) (i:Int) b p q=kx p1 p32 p33 p34 p q
 | 0,i,h1=>by omega
 | n+1,i,h1=>by
  by_cases h:i<ts.length
  ·have hw:=zki hs ts[i];rw [gV,jR,cY (by omega),fj (zaT _ h),dg (by rfl),hb.c,hb.d,zdN hs _ hL,bQ ⟨rfl,by omega⟩,SQ,cM,hb.c,zft hs _ hL,bQ ⟨rfl,by omega⟩,SQ,cM,ip,if_pos rfl,s_c,s_c,s_d,zlN hw hL,WcQ,eI,cM,up (by omega),YL hs hb hL hts kr kx p1 p32 p33 p34 p q n (i+1) (by omega)]
  ·rw [gV,jR,di (by omega)]
theorem TE{s s':ScT}(hs:ScW s)(hs':ScW s'){b:List V}(hb:Rp b s){L:Nat}(hL:2000000<=L)(k0:Ls->Int->Option Y)(kr:Bool->Ls->Int->Option Y)(p1:Int)(p:Ls)(q:Int):∀ (n i:Nat),2-i<n ->
  jy cT dm cP cR cy ca cF bU cS L k0 kr n p1 [b,eU s'] (2:Int) (i:Int) p q=k0 p q
 | 0,i,h1=>by omega
 | n+1,i,h1=>by
  by_cases h:i<2
  ·obtain ⟨r,_,_,e1⟩:=Da p1 8 (by omega) (by omega);obtain ⟨c,t,hc,ht,hct⟩:∃ (c:List V) (t:ScT),([b,eU s']:Ls)[i]?=some c/\ScW t/\Rp c t:=by
    match i,h with
    | 0,_=>exact ⟨b,s,rfl,hs,hb⟩
    | 1,_=>exact ⟨eU s',s',rfl,hs',.inl rfl⟩
   have hl:=hct.l;have htk:WcL 2 c=c:=WbR (by omega);have hset:cq [(V.gs 3 ([]:Ls)),(V.gs 38 ([]:Ls))] 0 c=c:=mc (by rw [hl]; rfl);rw [jy,j4,mJ,cY (by omega),fj hc,htk,bQ ⟨hl,by omega⟩,hset,cM,e1,cM];refine (YL ht hct hL (ts:=[p1,Wbf .i64 (r-1)]) (by simp) _ _ p1 _ _ _ p q L 0 (by simp; omega)).trans ?_;rw [li,cM,up (by omega),TE hs hs' hb hL k0 kr p1 p q n (i+1) (by omega)]
  ·rw [jy,j4,mJ,di (by omega)]
theorem Qb(a0:Ls)(a1 a2 a3:Int)(hl0:a0.length<=maxLen)(wf0:∀ e∈a0,HasRow [.int .i64] e)(wf1:(Lit.int .i64 a1).wf=true)(wf2:(Lit.int .i64 a2).wf=true)(wf3:(Lit.int .i64 a3).wf=true):∃ L,∀ k:Bool->Option Bool,jQ Bool L a0 a1 a2 a3 k=k true:=by
 obtain ⟨l,rfl,_⟩:=zb1 wf0
 let d:Dec:=⟨l,0,by omega,by omega,by
  rw [kL] at hl0; have:maxLen<=9223372036854775807:=by decide
  omega⟩
 obtain ⟨w,bs,d1,hw,L1,h1⟩:=zhA d;obtain ⟨b,s,d2,hs,hb,L2,h2⟩:=zjV hw d1;obtain ⟨s',hs',h3⟩:=zg6 hs a2 a3;refine ⟨20000000+L1+L2,λk=>?_⟩;generalize hL:20000000+L1+L2=L;have htk:WcL 2 b=b:=WbR (by rw [hb.l]; omega);have hset:cq [(V.gs 3 ([]:Ls)),(V.gs 38 ([]:Ls))] 0 b=b:=mc (by rw [hb.l]; rfl);obtain ⟨v1,v2,hb2⟩:∃ v1 v2,b=[v1,v2]:=by
  have:=hb.l
  match b,this with
  | [v1,v2],_=>exact ⟨v1,v2,rfl⟩
 have e5:∀ v:V,bY 2 2 (cq (cq [(V.sl 3 ([]:Ls)),(V.sl 38 ([]:Ls)),(V.sl 3 ([]:Ls)),(V.sl 38 ([]:Ls))] 0 b) 2 (eU s'))=[b,eU s']:=λ_=>by subst hb2; rfl
 have e6:(cq [(V.sl 3 ([]:Ls)),(V.sl 38 ([]:Ls)),(V.sl 3 ([]:Ls)),(V.sl 38 ([]:Ls))] 0 b).length=4:=by subst hb2; rfl
 simp only [jQ,qq,uG,dm,LU,cT];rw [bQ (by omega),show cP Bool L 6 (eQ .i64 l) 0=cP Bool L 6 d.es d.a from rfl,h1 L (by omega),hw.d,h2 L (by omega),bQ ⟨hb.l,by omega⟩,hset,cM,hb.c,hb.c,hb.d,h3,htk,bQ ⟨hb.l,by omega⟩,bQ ⟨rfl,by rw [e6]; omega⟩,e5 (V.ub)];exact (TE (Y:=Bool) hs.weak hs' hb (by omega) _ _ a1 _ _ L 0 (by omega)).trans rfl
end
section
theorem jf{a b:Bool}(ha:a=true)(hb:b=true):(a&&b)=true:=by rw [ha,hb]; rfl
theorem zi7:laidOutB Tryz.prog=true:=by kernel_rfl
theorem ziX:mapsRowed Tryz.prog=true:=by kernel_rfl
theorem zgW:(Tryz.prog.stops==[])=true:=by kernel_rfl
theorem zhW:(Tryz.prog.stopKnobs==[])=true:=by kernel_rfl
theorem zhw:Tryz.prog.stopsHeard=true:=by kernel_rfl
theorem zib:Tryz.prog.mayEnter=true:=by kernel_rfl
theorem zhp:(false==Tryz.prog.liftsFinal)=true:=by kernel_rfl
theorem zjE:(true==Tryz.prog.plainKeys)=true:=by kernel_rfl
end
section
def ov0:List (Nat × (Nat->Dk)):=[]
theorem zkS:zdp (dl rows) 0 ov0:=zk2
end
section
noncomputable section
theorem zaN(Y:Type)(n:Nat)(k:KK Y):Xf (dl rows) (ovF ov0 (n+30000)) (n+30000) 40 Y 813 [] [] k=k (.sc (.bool true)) []:=by kernel_rfl
theorem Xw(L:Nat):FOk (dl rows) L 813 (NN cT L) 40:=zjK zkS L 40 813 (zjI (X:=λL Y a b k=>Xf (dl rows) (ovF ov0 L) L 40 Y 813 a b k) zaN L)
theorem La(L:Nat):FOk (dl rows) L 812 (u1 jQ L) 402:=eM (D:=401) (by kernel_rfl) λm hm=>⟨fc,eZ cT dm cP cR cy ca cF bU cS L,(dw (dw (dw (dw (dw (dw (dw (dw (dw eF (Xw L m (by omega))) (ZY L m (by omega))) (Xv L m (by omega))) (WA L m (by omega))) (UB L m (by omega))) (HJ L m (by omega))) (TZ L m (by omega))) (HX L m (by omega))) (WM L m (by omega))),Ju L⟩
end
end
section
namespace scanRewindsL
open Go.ChangeShapes Go.WideShapes Go.ChangeAt Go.RowKit
theorem own:ownKnob Tryz.prog.godebug=none:=by kernel_rfl
theorem PB:laidOutB Tryz.prog=true:=by kernel_rfl
set_option maxRecDepth 100000 in
theorem zlQ(os:Os)(started:os.Started)(H:Type)(enc:TypeId × Value->H) :
  ReturnsInHanded {} Tryz.checked os 5 .any (Rows.scanRewindsSpec.pre6 enc Tryz.prog Tryz.f5 Rows.scanRewindsRow.domain false) (Rows.scanRewindsSpec.post enc Tryz.prog Tryz.f5 false true false false):=by
 refine returnsInHanded_of_change (C:=Tryz.checked) own started (by kernel_rfl) Tryz.func5
  (ChangeSpec.witness6 (enc:=enc) (C:=Tryz.checked) false ⟨#[],#[.slice none 0 0,.int .i64 0,.int .i64 0,.int .i64 0],[]⟩ 8 (by kernel_rfl) (by kernel_rfl) (by kernel_rfl) (by kernel_rfl)) ?_
 intro d4 base args ds gs before hval0 hW hcnd _;have hval:∀ (j:Nat) t v,Tryz.f5.params[j]?=some t->args[j]?=some v->Value.okWide Tryz.prog d4 .any base t v:=hval0;have hW':=hW;obtain ⟨p,q,hA0,hV,rfl,hfz,hnd⟩:=hW;have hA:DataW.TrodAll enc Tryz.prog d4 0 (λ_=>true) true Tryz.f5.params.toList args.toList ds p:=hA0;rw [Tryz.params5] at hA hval;obtain ⟨v0,vs0,d0,ds0,p0,q0,hargs,rfl,rfl,h0,r0⟩:=trodAll_cons hA;obtain ⟨v1,vs1,d1,ds1,p1,q1,rfl,rfl,rfl,h1,r1⟩:=trodAll_cons r0;obtain ⟨v2,vs2,d2,ds2,p2,q2,rfl,rfl,rfl,h2,r2⟩:=trodAll_cons r1;obtain ⟨v3,vs3,d3,ds3,p3,q3,rfl,rfl,rfl,h3,r3⟩:=trodAll_cons r2;obtain ⟨rfl,rfl,rfl⟩:=trodAll_nil r3;obtain rfl:args=#[v0,v1,v2,v3]:=by cases args; simp_all
 obtain ⟨rfl,rfl⟩:=trodVars_none hV;have k0:=h0;have lt0:∀ x∈p0,x.block<d4.heap.size:=by obtain ⟨m,hm⟩:=k0; exact DataW.trod_lt m _ _ _ hm
 have k1:=h1;have lt1:∀ x∈p1,x.block<d4.heap.size:=by obtain ⟨m,hm⟩:=k1; exact DataW.trod_lt m _ _ _ hm
 have k2:=h2;have lt2:∀ x∈p2,x.block<d4.heap.size:=by obtain ⟨m,hm⟩:=k2; exact DataW.trod_lt m _ _ _ hm
 have k3:=h3;have lt3:∀ x∈p3,x.block<d4.heap.size:=by obtain ⟨m,hm⟩:=k3; exact DataW.trod_lt m _ _ _ hm
 obtain ⟨A0,len0,cap0,rfl⟩:=okWide_slice Tryz.underlying22 (hval 0 22 v0 rfl rfl);obtain ⟨x0,hx0,rp0⟩:=zjf (r:=.any) (b0:=base) (aa:=kO fg gls) (d:=20) (ct:=.sl ([.int .i64])) rfl h0 (by kernel_rfl);obtain ⟨a0,rfl,hl0,wf0⟩:=hx0.aV;obtain ⟨a1,rfl,rfl,rfl,wf1⟩:=open_int Tryz.underlying3 (hval 1 3 v1 rfl rfl) h1;obtain ⟨a2,rfl,rfl,rfl,wf2⟩:=open_int Tryz.underlying3 (hval 2 3 v2 rfl rfl) h2;obtain ⟨a3,rfl,rfl,rfl,wf3⟩:=open_int Tryz.underlying3 (hval 3 3 v3 rfl rfl) h3;clear hA0 hval0;obtain ⟨L,hL⟩:=Qb a0 a1 a2 a3 hl0 wf0 wf1 wf2 wf3;have hd:u1 jQ L Bool [(V.sl 1 a0),(QQe a1),(QQe a2),(QQe a3)] [] PJ=some true:=by
  show (aL 1 (V.sl 1 a0) λx0=>aI .i64 (QQe a1) λx1=>aI .i64 (QQe a2) λx2=>aI .i64 (QQe a3) λx3=>jQ Bool L x0 x1 x2 x3 (λp=>PJ (V.sc (.bool p)) []))=some true;rw [zlU,DR,DR,DR];exact (hL (λp=>PJ (V.sc (.bool p)) [])).trans rfl
 obtain ⟨v,b,hev,hk⟩:=La L 1000 (by decide) Bool [(V.sl 1 a0),(QQe a1),(QQe a2),(QQe a3)] [] PJ true hd;have hv:=zgc hk;subst hv;refine (zdj (us:=[.slice A0 len0 cap0,.int .i64 a1,.int .i64 a2,.int .i64 a3]) (w:=d4) (λ_ _ h=>by cases h) (zme L 1000) (f:=5) (by kernel_rfl) rfl (λi x u hx hu=>?_) hev).mono λe W' ⟨he,bel0⟩=>?_
 ·match i,hx,hu with
  | 0,hx,hu=>cases hx; cases hu; exact rp0
  | 1,hx,hu=>cases hx; cases hu; exact .sc _ rfl
  | 2,hx,hu=>cases hx; cases hu; exact .sc _ rfl
  | 3,hx,hu=>cases hx; cases hu; exact .sc _ rfl
  | n+4,hx,hu=>simp at hx
 ·have bel:=Kept.below bel0;subst he;exact ⟨_,rfl,_,_,_,[],_,[],hW',trodAll_mk1 (shut_bool Tryz.underlying4 _),(trodAll_cons_mk (Below.trod PB (by kernel_rfl) (of_decide_eq_true (by kernel_rfl)) k0 bel lt0) (trodAll_cons_mk (Below.trod PB (by kernel_rfl) (of_decide_eq_true (by kernel_rfl)) k1 bel lt1) (trodAll_cons_mk (Below.trod PB (by kernel_rfl) (of_decide_eq_true (by kernel_rfl)) k2 bel lt2) (trodAll_cons_mk (Below.trod PB (by kernel_rfl) (of_decide_eq_true (by kernel_rfl)) k3 bel lt3) trodAll_mk0)))),rfl,bel.frame _,λh=>by cases h⟩
theorem zma:(Rows.scanRewindsRow.wf (OpenSpec.ofChange Rows.scanRewindsSpec))=true:=by kernel_rfl
theorem zmc:(Tryz.f5.params.all (Tryz.prog.readableRec ·))=true:=by kernel_rfl
theorem zl6:(namedTie Tryz.prog Rows.scanRewindsRow.named Rows.scanRewindsSpec.vars)=true:=by kernel_rfl
theorem zlZ:((Rows.scanRewindsRow.stops==[]))=true:=by kernel_rfl
theorem zmj:((Rows.scanRewindsRow.knobs==[]))=true:=by kernel_rfl
theorem zmh:((Rows.scanRewindsRow.inPlace==Tryz.prog.inPlace 5))=true:=by kernel_rfl
theorem zle:((Rows.scanRewindsRow.unfollowed==Tryz.prog.unfollowed 5))=true:=by kernel_rfl
theorem zka:((Rows.scanRewindsRow.recurses==Tryz.prog.recurses 5))=true:=by kernel_rfl
theorem zkV:((Rows.scanRewindsRow.named==Tryz.prog.varsNamed 5))=true:=by kernel_rfl
theorem zlL:((Rows.scanRewindsRow.maps==(Tryz.f5.params.toList++Rows.scanRewindsSpec.plain.varTypes Tryz.prog).any (Tryz.prog.mapsRec ·)))=true:=by kernel_rfl
theorem zkE:((Rows.scanRewindsRow.ifaces==(Tryz.f5.params.toList++Rows.scanRewindsSpec.plain.varTypes Tryz.prog).any (Tryz.prog.ifacesRec ·)))=true:=by kernel_rfl
theorem zlP:((Rows.scanRewindsRow.mapsOut==Tryz.prog.mapsAmong Tryz.f5.resultTypes.toList))=true:=by kernel_rfl
theorem zko:((Rows.scanRewindsRow.loops==(Tryz.f5.params.toList++Rows.scanRewindsSpec.plain.varTypes Tryz.prog).any (Tryz.prog.loopsFrom ·)))=true:=by kernel_rfl
theorem zj9:((Rows.scanRewindsRow.wideKeys==(Tryz.f5.params.toList++Rows.scanRewindsSpec.plain.varTypes Tryz.prog++Tryz.f5.resultTypes.toList).any (Tryz.prog.wideKeysFrom ·)))=true:=by kernel_rfl
theorem zkr:(Rows.scanRewindsSpec.vars.all (Tryz.prog.varReadable ·))=true:=by kernel_rfl
theorem zkc:(Tryz.f5.resultTypes.all (λt=>Tryz.prog.readableRec t&&decide (t<Tryz.prog.types.size)))=true:=by kernel_rfl
theorem zkP:((Rows.scanRewindsRow.ifacesOut==Tryz.f5.resultTypes.toList.any (Tryz.prog.ifacesRec ·)))=true:=by kernel_rfl
theorem zkK:((Rows.scanRewindsRow.loopsOut==Tryz.f5.resultTypes.toList.any (Tryz.prog.loopsFrom ·)))=true:=by kernel_rfl
theorem zlJ:(Rows.scanRewindsRow.shortTexts.isNone)=true:=by kernel_rfl
theorem zkt:((Tryz.prog.make==some Rows.scanRewindsRow.make))=true:=by kernel_rfl
theorem zln:((Rows.scanRewindsRow.kinds==(if Rows.scanRewindsRow.domain.isEmpty then [] else Tryz.f5.params.toList.map λt=>match Tryz.prog.underlying t with | some (.int k)=>some k | _=>none)))=true:=by kernel_rfl
theorem zkj:((Rows.scanRewindsRow.pinned==Rows.scanRewindsRow.pinnedBy))=true:=by kernel_rfl
theorem zlB:((Rows.scanRewindsRow.veiled==(Tryz.f5.params.toList++Rows.scanRewindsSpec.plain.varTypes Tryz.prog++Tryz.f5.resultTypes.toList).any (Tryz.prog.veiledRec ·)))=true:=by kernel_rfl
theorem zkT:(Rows.scanRewindsRow.veiledFits Tryz.prog Tryz.f5.params.toList (Tryz.f5.params.toList++Rows.scanRewindsSpec.plain.varTypes Tryz.prog++Tryz.f5.resultTypes.toList))=true:=by kernel_rfl
theorem zkC:joinedFacts Tryz.prog 5 Tryz.f5 Rows.scanRewindsSpec Rows.scanRewindsRow=true:=by
 unfold joinedFacts;exact (jf (jf (jf (jf (jf (jf (jf (jf (jf (jf (jf (jf (jf (jf (jf (jf (jf (jf (jf (jf (jf (jf (jf (jf (jf (jf (jf (jf (jf (jf (jf zma zi7) ziX) zmc) zl6) zlZ) zgW) zmj) zhW) zmh) zle) zka) zkV) zlL) zkE) zlP) zko) zj9) zkr) zkc) zkP) zkK) zjE) zlJ) zhw) zib) zhp) zkt) zln) zkj) zlB) zkT)
theorem inst:Tryz.f5.isInstance Tryz.prog Rows.scanRewindsRow.origin Rows.scanRewindsRow.targs:=of_decide_eq_true (by kernel_rfl)
theorem cO:Tryz.f5.isWrapper Tryz.prog Rows.scanRewindsRow.wrapper Rows.scanRewindsRow.mainSum:=by
 unfold Func.isWrapper
 first | (rw [if_pos (by decide +kernel)]; kernel_rfl) | (rw [if_neg (by decide +kernel)]; exact ⟨rfl,rfl⟩)
theorem oe:Tryz.prog.funcNamed Rows.scanRewindsRow.func=some 5:=by kernel_rfl
theorem over:Rows.scanRewindsRow.holds Tryz.pinned (OpenSpec.ofChange Rows.scanRewindsSpec):=
 OpenClaim.holds_of_wide 5 Tryz.f5 rfl rfl rfl rfl rfl rfl rfl ⟨rfl,rfl,rfl,rfl,rfl⟩ rfl rfl rfl rfl rfl oe Tryz.func5 zkC inst cO
  (λos started H enc _=>zlQ os started H enc)
end scanRewindsL
theorem scanRewinds_holds:Rows.ScanRewindsSaid:=scanRewindsL.over
end
end Go.Proofs.YtipklgbboecciaaGreat
