/- RelayEnds: for every input the call returns true, and each argument reads afterwards as it read before. No condition. -/
import Derived.Test.YtpbbfpfmdckclaaMRelayEnds11
namespace Go.Proofs.Ytpbbfpfmdckclaa
section
set_option linter.unusedVariables false
set_option linter.unusedSimpArgs false
variable {β:Type}
theorem zrv (L:Nat) (h:Hs) (l:List Hs) (hl:l.length≤100000) (kr:Bool→Option β) (kx:Option β):∀ (n i:Nat),i≤l.length→l.length - i < n →
  zeR L kr kx n (l.map Hs.v) (l.length:Int) (i:Int) h.v=ifb ((l.drop i).any (isH h)) (kr true) kx
 | 0,i,h1,h2=>by omega
 | n+1,i,h1,h2=>by
  unfold zeR zi6
  by_cases hi:i < l.length
  ·rw [yI (by omega),zaK (zgb hi),zma,zE,yZ,zns,zal,zal,yZ,yZ,zqd,xR (by omega),zE]
   refine (congrArg (ifb _ (kr true)) (zrv L h l hl kr kx n (i+1) (by omega) (by omega))).trans ?_
   rw [zu1 hi]
   show ifb (isH h l[i]) _ _=_
   cases isH h l[i] <;> rfl
  ·rw [zB (by omega),List.drop_of_length_le (by omega)]; rfl
theorem zwI {L:Nat} {l:List Hs} (hl:l.length≤1000) (hL:2000≤L) (h:Hs) (k:Bool→Option β):ze β L (l.map Hs.v) h.v k=k (l.any (isH h)):=by
 unfold ze zkg zmT
 rw [List.length_map]
 refine (zrv L h l (by omega) _ _ L 0 (by omega) (by omega)).trans ?_
 unfold zg3 zhF
 rw [List.drop_zero]
 cases l.any (isH h) <;> rfl
theorem zr5 (h:Hs) (l:List Hs):l.any (isH h)=true↔h.l ∈ hl l:=by
 rw [List.any_eq_true]
 constructor
 ·rintro ⟨x,hx,e⟩
  exact List.mem_map.2 ⟨x,hx,of_decide_eq_true e⟩
 ·intro hm
  obtain ⟨x,hx,e⟩:=List.mem_map.1 hm
  exact ⟨x,hx,decide_eq_true e⟩
theorem zuo (L:Nat) (d:Dk) (n:Int) (hn:1≤n) (hn2:n≤1000000000000):∃ (r:Int) (d':Dk),d'.l=d.l∧0≤r∧r < n∧d.a≤d'.a∧(d.a < d.l.length→d'.a=d.a+1)∧∀ (β:Type) (k:Int→List (List V)→Int→Option β),za β L n d.es d.a k=k r d'.es d'.a:=by
 obtain ⟨l,a,h0,h1,hl⟩:=d
 simp only [Dk.es]
 by_cases h:a < l.length
 ·obtain ⟨i,rfl⟩:∃ i:Nat,a=i:=⟨a.toNat,by omega⟩
  have hi:i < l.length:=by omega
  obtain ⟨r,q1,q2,q3⟩:=zuJ L l[i] n hn hn2
  refine ⟨r,⟨l,i+1,by omega,by omega,hl⟩,rfl,q1,q2,by show (i:Int)≤i+1; omega,fun _=>rfl,fun β k=>?_⟩
  simp only [za,zfY,zb,zev,zE,y6]
  have w1:IntKind.wrap .i64 ((i:Int)+1)=(i:Int)+1:=zjL (by omega) (by omega)
  have w2:IntKind.wrap .i64 ((i:Int)+1 - 1)=(i:Int):=by rw [zjL (by omega) (by omega)]; omega
  rw [zvg,if_pos (by omega),w1,w2,zaK (zlR _ hi),zdw (by rfl),q3]
 ·refine ⟨0,⟨l,a,h0,h1,hl⟩,rfl,by omega,by omega,Int.le_refl _,fun hh=>absurd hh h,fun β k=>?_⟩
  simp only [za,zfY,zb,zev,zE,y6]
  rw [zvg,if_neg (by omega)]
theorem zn9 (r:Rl) (q:Rl) (k:Option β):chk ((List.length r.v)=5∧0+5≤List.length q.v) k=k:=yp ⟨rfl,by show 0+5≤5; omega⟩ k
theorem zqj (r q:Rl):ya q.v 0 r.v=r.v:=zmz rfl
variable {t:Int} {S G D:List Hs} {r:Rl} {a:Int}
theorem zto {L:Nat} (hL:2000≤L) (hI:Inv t S G r D a) (h:Hs) (k:List V→Int→Option β):yb β L r.v h.v k=if h.l ∈ hl G then k zeroR.v 150 else k (r.gone h).v 0:=by
 have h1:=hI.cnt; have h2:=hI.a2
 rw [zy3 hI.few hL]
 unfold zuX
 rw [hI.snd,Bool.not_true,yr,hI.fl]
 have:=zr5 h G
 by_cases e:h.l ∈ hl G
 ·rw [if_pos e,this.2 e,xM,ziy]
 ·have e':G.any (isH h)=false:=by rw [Bool.eq_false_iff]; exact fun q=>e (this.1 q)
  rw [if_neg e,e',yr,if_neg (by omega)]
theorem znl (h:Hs) (l:List Hs):hl (h::l)=h.l::hl l:=rfl
theorem zxR (l m:List Hs):hl (l++m)=hl l++hl m:=by simp [hl]
theorem zwF (l:List Hs) (hl:l.length≤1000) (h:Hs) (k:List (List V)→Option β) :
  chk (0+32≤(List.length h.v)) (
  chk ((List.length h.v)=32∧0+32≤32) (
  chk ((List.length (l.map Hs.v)+List.length (xb 32 1 (ya (List.replicate 32 (V.sc (.int .u8 (0:Int)))) 0 h.v))) * 32≤yi∧List.length (l.map Hs.v)+List.length (xb 32 1 (ya (List.replicate 32 (V.sc (.int .u8 (0:Int)))) 0 h.v))≤yi) (
  lt ((l.map Hs.v)++(xb 32 1 (ya (List.replicate 32 (V.sc (.int .u8 (0:Int)))) 0 h.v))) k)))=k ((l++[h]).map Hs.v):=by
 rw [zal,yp ⟨zd0 h,by decide⟩,zvt,yp (by simp only [List.length_singleton,List.length_map,yi]; omega),zE,zvq]
theorem Inv.pop {x:Hs} (hI:Inv t S G r (x::D) a) (hc:((G.length+1+(r.gone x).st.length+D.length:Nat):Int)≤a):Inv t S (G++[x]) (r.gone x) D a:=by
 have hnd:=hI.nd
 have e:(xV r++(hl (x::D)++hl G)).Perm (xV r++(hl D++hl (G++[x]))):=by
  refine List.Perm.append_left _ ?_
  have:hl D++hl (G++[x])=(hl D++hl G)++[x.l]:=by rw [zxR,List.append_assoc]; rfl
  rw [this,znl,List.cons_append]
  exact (List.perm_append_singleton _ _).symm
 have nx:x.l ∉ xV r:=by
  intro hm
  have h3:=(List.nodup_append.1 hnd).2.2
  exact h3 x.l hm x.l (by rw [znl]; exact List.mem_cons_self ..) rfl
 have es:xV (r.gone x)=xV r:=by rw [znN,List.erase_of_not_mem nx]
 have sub:(r.gone x).st.Sublist r.st:=by rw [zqb]; exact List.eraseP_sublist
 refine { rt:=hI.rt,df:=hI.df,st64:=Nat.le_trans sub.length_le hI.st64,fl:=by show r.fl++[x]=_; rw [hI.fl],cs:=hI.cs,a2:=hI.a2,t0:=hI.t0,t1:=hI.t1,nd:=?_,cnt:=by rw [List.length_append,List.length_singleton]; exact hc,inS:=?_,due:=fun s hs=>hI.due s (sub.subset hs),cov:=?_ }
 ·rw [es]; exact e.nodup_iff.1 hnd
 ·intro y hy
  rw [es] at hy
  refine hI.inS y ?_
  rcases List.mem_append.1 hy with q | q
  ·exact List.mem_append_left _ q
  ·exact List.mem_append_right _ (by rw [znl]; exact List.mem_cons_of_mem _ q)
 ·intro y hy
  rw [es]
  exact e.mem_iff.1 (hI.cov y hy)
theorem ein {L:Nat} (hL:2000≤L) (Ds:List Hs) (hd:Ds.length≤1000) (kr:Bool→List (List V)→Int→Option β) (kx:zgg β) (b0:List (List V)) (b1:Int):∀ (n i:Nat) (G:List Hs) (r:Rl),Inv t S G r (Ds.drop i) a→i≤Ds.length→Ds.length - i < n→∃ G' r',Inv t S G' r' [] a ∧
  zL xa ye zc zb za yb yd yc ze L kr kx n (S.map Hs.v) (G.map Hs.v) t (Ds.map Hs.v) (Ds.length:Int) (i:Int) r.v b0 b1=kx (S.map Hs.v) (G'.map Hs.v) t r'.v b0 b1
 | 0,i,G,r,hI,h1,h2=>by omega
 | n+1,i,G,r,hI,h1,h2=>by
  by_cases h:i < Ds.length
  ·have hcs:=hI.cs; have h200:=hI.a2; have hcn:=hI.cnt
   have hnd:=hI.nd
   rw [List.drop_eq_getElem_cons h,znl] at hnd
   have hnd2:=(List.nodup_append.1 hnd).2.1
   rw [List.cons_append,List.nodup_cons] at hnd2
   have nG:Ds[i].l ∉ hl G:=fun q=>hnd2.1 (List.mem_append_right _ q)
   have inS:Ds[i].l ∈ hl S:=hI.inS _ (List.mem_append_right _ (by rw [List.drop_eq_getElem_cons h,znl]; exact List.mem_cons_self ..))
   have gl:=zuB r Ds[i]
   have hI2:Inv t S (G++[Ds[i]]) (r.gone Ds[i]) (Ds.drop (i+1)) a:=by
    have hI':Inv t S G r (Ds[i]::Ds.drop (i+1)) a:=by rw [← List.drop_eq_getElem_cons h]; exact hI
    have hlen:(Ds.drop i).length=(Ds.drop (i+1)).length+1:=by rw [List.drop_eq_getElem_cons h]; rfl
    refine Inv.pop hI' ?_
    omega
   obtain ⟨G',r',q1,q2⟩:=ein hL Ds hd kr kx b0 b1 n (i+1) (G++[Ds[i]]) (r.gone Ds[i]) hI2 (by omega) (by omega)
   refine ⟨G',r',q1,?_⟩
   unfold zL zad
   have e1:G.any (isH Ds[i])=false:=by rw [Bool.eq_false_iff]; exact fun q=>nG ((zr5 _ _).1 q)
   have e2:S.any (isH Ds[i])=true:=(zr5 _ _).2 inS
   rw [yI (by omega),zaK (zgb h),zma,zE,yZ,zns,zal,yZ,zwI (by omega) hL,e1,yr,zal,zwI (by omega) hL,e2,Bool.not_true,yr,zdb,zal,zkn,zto hL hI,if_neg nG,zg7,zE,ziQ,zcg,if_pos rfl,zdb]
   refine (zwF G (by omega) Ds[i] _).trans ?_
   rw [znH,zn9,zqj,zE,xR (by omega),zE]
   exact q2
  ·refine ⟨G,r,?_,?_⟩
   ·rw [List.drop_of_length_le (by omega)] at hI; exact hI
   ·unfold zL zad
    rw [zB (by omega)]
theorem zz7 (L:Nat) (es:List (List V)) (a:Int) (k:Bool→List (List V)→Int→Option β):zb β L es a k=k (decide (a < ((es.length:Nat):Int))) es a:=by unfold zb zev; exact Eq.trans rfl rfl
theorem zyJ {L:Nat} (hL:2000≤L) (hI:Inv t S G r [] a) (p:Int) (hp:-1≤p) (h:Hs) {a':Int} (ha:a≤a') (hc1:((S.length:Nat):Int)+1≤a') (hc2:((G.length+r.st.length:Nat):Int)+1≤a') (h4:a'≤200):∃ (q:Rl) (to e:Int),(∀ (β:Type) (k:List V→Int→Int→Option β),yc β L r.v p h.v t 10 k=k q.v to e)∧(e=0→0≤to→Inv t (S++[h]) G q [] a'):=by
 have h1:=hI.cnt; have h2:=hI.a2; have h3:=hI.t0; have ht:=hI.t1
 have key:∃ (q:Rl) (to e:Int),(∀ (β:Type) (k:List V→Int→Int→Option β),zeC r p h t 10 k=k q.v to e)∧(e=0→0≤to→Inv t (S++[h]) G q [] a'):=by
  by_cases q3:r.st.any (isS h)=true
  ·exact ⟨zeroR,0,150,fun β k=>by unfold zeC; rw [hI.snd,Bool.not_true,yr,zB (by omega),q3,xM,ziy],fun e=>absurd e (by decide)⟩
  ·have q3':r.st.any (isS h)=false:=by simpa using q3
   by_cases q4:r.fl.any (isH h)=true
   ·exact ⟨zeroR,0,150,fun β k=>by unfold zeC; rw [hI.snd,Bool.not_true,yr,zB (by omega),q3',yr,q4,xM,ziy],fun e=>absurd e (by decide)⟩
   ·have q4':r.fl.any (isH h)=false:=by simpa using q4
    have q5:¬ (r.df=true∧p≠-1):=by rw [hI.df]; simp
    by_cases q6:zag r.rt p=-1
    ·exact ⟨r,-1,0,fun β k=>by unfold zeC; rw [hI.snd,Bool.not_true,yr,zB (by omega),q3',yr,q4',yr,if_neg q5,if_pos q6],fun _ e=>absurd e (by decide)⟩
    ·by_cases q7:64≤r.st.length
     ·exact ⟨zeroR,0,380,fun β k=>by unfold zeC; rw [hI.snd,Bool.not_true,yr,zB (by omega),q3',yr,q4',yr,if_neg q5,if_neg q6,if_pos q7,ziy],fun e=>absurd e (by decide)⟩
     ·have el:zen t 10=t+10:=by unfold zen; rw [if_neg (by omega)]
      exact ⟨r.more ⟨h.l,p,zag r.rt p,zen t 10,h.hl⟩,zag r.rt p,0,fun β k=>by unfold zeC; rw [hI.snd,Bool.not_true,yr,zB (by omega),q3',yr,q4',yr,if_neg q5,if_neg q6,if_neg q7],fun _ _=>by rw [el]; exact hI.more h p _ q3' q4' (by omega) ha hc1 hc2 h4⟩
 obtain ⟨q,to,e,H,H2⟩:=key
 exact ⟨q,to,e,fun β k=>(zwe hI.few hL p h ⟨by omega,by omega⟩ ⟨by decide,by decide⟩ k).trans (H β k),H2⟩
theorem zAp {L:Nat} (hL:2000≤L) (l:List Int) (h200:l.length≤200) (kr:Bool→List (List V)→Int→Option β) (kx:zeA β) (K:Option β) (H:∀ (t:Int) (S G:List Hs) (r:Rl) (d:Dk),Inv t S G r [] d.a→kx (S.map Hs.v) (G.map Hs.v) t r.v d.es d.a=K):∀ (n:Nat) (t:Int) (S G:List Hs) (r:Rl) (d:Dk),d.l=l→Inv t S G r [] d.a→l.length - d.a < n →
  zaV xa ye zc zb za yb yd yc ze L kx kr n (S.map Hs.v) (G.map Hs.v) t r.v d.es d.a=K
 | 0,t,S,G,r,d,hd,hI,hn=>by have:=d.h1; rw [hd] at this; omega
 | n+1,t,S,G,r,d,hd,hI,hn=>by
  have ih:=zAp hL l h200 kr kx K H n
  unfold zaV zcA zdW
  have hes:d.es.length=l.length:=by rw [Dk.es,y6,hd]
  rw [zz7,hes]
  by_cases h:d.a < l.length
  ·have hcs:=hI.cs; have h2:=hI.a2; have hcn:=hI.cnt; have ht0:=hI.t0; have ht1:=hI.t1
   obtain ⟨x1,d1,k1,x1a,x1b,x1c,x1d,y1⟩:=zuo L d 5 (by decide) (by decide)
   have x1d:=x1d (by rw [hd]; exact h)
   obtain ⟨x2,d2,k2,x2a,x2b,x2c,x2d,y2⟩:=zuo L d1 30 (by decide) (by decide)
   obtain ⟨x3,d3,k3,x3a,x3b,x3c,x3d,y3⟩:=zuo L d2 4 (by decide) (by decide)
   obtain ⟨x4,d4,k4,x4a,x4b,x4c,x4d,y4⟩:=zuo L d3 9 (by decide) (by decide)
   have l3:d3.l=l:=by rw [k3,k2,k1,hd]
   have l4:d4.l=l:=by rw [k4,l3]
   have b3:=d3.h1
   have b4:=d4.h1
   rw [l3] at b3
   rw [l4] at b4
   have w1:IntKind.wrap .u32 x1=x1:=zjI x1a (by omega)
   have w2:IntKind.wrap .u32 (t+x1)=t+x1:=zjI (by omega) (by omega)
   have hI3:Inv (t+x1) S G r [] d3.a:=hI.mono (by omega) (by omega) (by omega) (by omega)
   have hI4:Inv (t+x1) S G r [] d4.a:=hI.mono (by omega) (by omega) (by omega) (by omega)
   have hIm:Inv (t+x1) S G r [] (d.a+1):=hI.mono (by omega) (by omega) (by omega) (by omega)
   rw [yI h,y1,w1,zE,w2,zE,y2,zE,zzi,zE,y3]
   by_cases z0:x3=0
   ·rw [zb5 z0,zdb,zal,zkn,yZ,zto hL hI3]
    by_cases m:(kid (IntKind.wrap .u8 x2)).l ∈ hl G
    ·rw [if_pos m,zg7,zE,ziQ,zaM (by decide)]
     exact ih (t+x1) S G r d3 l3 hI3 (by omega)
    ·have gl:=zuB r (kid (IntKind.wrap .u8 x2))
     rw [if_neg m,zg7,zE,ziQ,zb5 rfl,zdb]
     refine (zwF G (by omega) (kid (IntKind.wrap .u8 x2)) _).trans ?_
     rw [znH,zn9,zqj,zE]
     exact ih (t+x1) S (G++[kid (IntKind.wrap .u8 x2)]) (r.gone (kid (IntKind.wrap .u8 x2))) d3 l3 (hI3.gone _ (by simpa [hl] using m) (by simp at hcn ⊢; omega)) (by omega)
   ·by_cases z1:x3=1
    ·have hD:=hI3.take
     have hdl:=zrq (t+x1) r.st
     have hs64:=hI.st64
     have tail:=ein (β:=β) hL (zar (t+x1) r.st) (by omega) (fun p4 zBE zBF=>za5 xa ye zc zb za yb yd yc ze L p4 zBE zBF kr) (fun p7 p8 p9 b5 zBE zBF=>y8 xa ye zc zb za yb yd yc ze L p7 p8 p9 b5 zBE zBF (fun p7 p8 p9 b5 zBE zBF=>zaV xa ye zc zb za yb yd yc ze L kx kr n p7 p8 p9 b5 zBE zBF)) d3.es d3.a L 0 G (r.keep (t+x1)) (by rw [List.drop_zero]; exact hD) (by omega) (by omega)
     obtain ⟨G',r',i1,i2⟩:=tail
     rw [zaM z0,zb5 z1,zdb,zkn,zxT hI3.few hL,if_pos hI3.snd,zg7,zE,ziQ,zdb,znH,zn9,zqj,zE,List.length_map]
     refine i2.trans ?_
     unfold y8
     exact ih (t+x1) S G' r' d3 l3 i1 (by omega)
    ·obtain ⟨q,to,e,H1,H2⟩:=zyJ (a':=d4.a) hL hIm (x4 - 1) (by omega) (kid (IntKind.wrap .u8 x2)) (by omega) (by omega) (by simp at hcn; omega) (by omega)
     have w3:IntKind.wrap .i64 (x4 - 1)=x4 - 1:=zjL (by omega) (by omega)
     rw [zaM z0,zaM z1,zdb,y4,w3,zE,zal,zkn,yZ,H1,zg7,zE,ziQ]
     by_cases e0:e=0
     ·by_cases to0:0≤to
      ·rw [zb5 e0,yI to0,zdb]
       refine (zwF S (by omega) (kid (IntKind.wrap .u8 x2)) _).trans ?_
       rw [znH,zn9,zqj,zE]
       exact ih (t+x1) _ G q d4 l4 (H2 e0 to0) (by omega)
      ·rw [zb5 e0,zB to0]
       exact ih (t+x1) S G r d4 l4 hI4 (by omega)
     ·rw [zaM e0]
      exact ih (t+x1) S G r d4 l4 hI4 (by omega)
  ·rw [zB h]
   exact H t S G r d hI
end
section
set_option linter.unusedVariables false
set_option linter.unusedSimpArgs false
variable {β:Type}
theorem zAL (L:Nat) (hL:2000≤L) (G S:List Hs) (hG:G.length≤1000) (hS:S.length≤1000) (h:∀ x ∈ hl S,x ∈ hl G) (kr:Bool→List (List V)→Int→Option β) (kx:List V→List (List V)→Int→Option β) (b:List V) (b0:List (List V)) (b1:Int):∀ (n i:Nat),i≤S.length→S.length - i < n →
  za2 xa ye zc zb za yb yd yc ze L kr kx n (G.map Hs.v) (S.map Hs.v) (S.length:Int) (i:Int) b b0 b1=kx b b0 b1
 | 0,i,h1,h2=>by omega
 | n+1,i,h1,h2=>by
  unfold za2 zc5
  by_cases hi:i < S.length
  ·have e:G.any (isH S[i])=true:=(zr5 _ _).2 (h _ (List.mem_map.2 ⟨S[i],List.getElem_mem hi,rfl⟩))
   rw [yI (by omega),zaK (zgb hi),zma,zE,yZ,zns,zal,yZ,zwI hG hL,e,Bool.not_true,yr,xR (by omega),zE]
   exact zAL L hL G S hG hS h kr kx b b0 b1 n (i+1) (by omega) (by omega)
  ·rw [zB (by omega)]
theorem zAC (L:Nat) (es:List (List V)) (k:Bool→Option β):ye β L es k=k (decide (((es.length:Nat):Int)≤200)):=by unfold ye znL; exact Eq.trans rfl rfl
def r47:Rl:=⟨0,false,[4,7],[],[]⟩
theorem zAX:[(V.sc (.int .u32 (0:Int))),(V.sc (.bool false)),(V.sl 1 (xb 1 2 [(V.sc (.int .i64 (4:Int))),(V.sc (.int .i64 (7:Int)))])),(V.sl 35 ([]:List (List V))),(V.sl 32 ([]:List (List V)))]=r47.v:=Eq.trans rfl rfl
theorem zBi:Inv 0 [] [] r47 [] 0:={ rt:=rfl,df:=rfl,st64:=by simp [r47],nd:=by simp [xV,r47,hl],fl:=rfl,cnt:=by simp [r47],cs:=by simp,a2:=by decide,inS:=by simp [xV,r47,hl],due:=by simp [r47],cov:=by simp [hl],t0:=by decide,t1:=by decide }
theorem zsx (a0 a1:List (List V)) (hl0:a0.length≤maxLen) (wf0:∀ e ∈ a0,HasRow [.int .i64] e) (hl1:a1.length≤maxLen) (wf1:∀ e ∈ a1,HasRow [.int .i64] e) :
  ∃ L,∀ k:Bool→Option Bool,zdd Bool L a0 a1 k=k true:=by
 obtain ⟨l,rfl,_⟩:=zwg wf1
 rw [y6] at hl1
 obtain ⟨L,hL⟩:∃ L:Nat,5000≤L:=⟨5000,Nat.le_refl _⟩
 refine ⟨L+100,fun k=>?_⟩
 unfold zdd zfa zhw
 rw [zAD,Bool.not_true,yr,zAC,y6]
 by_cases h2:l.length≤200
 ·obtain ⟨d,e1,e2⟩:∃ d:Dk,d.l=l∧d.a=0:=⟨⟨l,0,by omega,by omega,by omega⟩,rfl,rfl⟩
  have ees:d.es=zcC .i64 l:=by rw [Dk.es,e1]
  rw [decide_eq_true (by omega:((l.length:Nat):Int)≤200),Bool.not_true,yr,zAX,zE,zAq]
  have main:=zAp (β:=Bool) (L:=L+100) (by omega) l h2 (fun p4 zBE zBF=>zdj xa ye zc zb za yb yd yc ze (L+100) p4 zBE zBF k) (fun p7 p8 p9 b5 zBE zBF=>zbb xa ye zc zb za yb yd yc ze (L+100) p7 p8 p9 b5 zBE zBF k) (k true) (by
   intro t S G r d hI
   have hcs:=hI.cs; have ha:=hI.a2; have hcn:=hI.cnt; have ht0:=hI.t0; have ht1:=hI.t1
   have hdl:=zrq (t+10) r.st
   have hkl:zac (t+10) r.st=[]:=by
    rw [zac,List.filter_eq_nil_iff]
    intro s hs
    have e:isD (t+10) s=true:=decide_eq_true (hI.due s hs)
    rw [e]; decide
   have hdl2:hl (zar (t+10) r.st)=xV r:=by
    have:r.st.filter (isD (t+10))=r.st:=by
     rw [List.filter_eq_self]; intro s hs; exact decide_eq_true (hI.due s hs)
    rw [zar,this,hl,List.map_map]; rfl
   have w:IntKind.wrap .u32 (t+10)=t+10:=zjI (by omega) (by omega)
   unfold zbb zdx
   rw [zdb,w,zE,zkn,zxT hI.few (by omega),if_pos hI.snd,zg7,zE,ziQ,List.length_map,List.length_map,List.length_map,yp (by simp only [yi]; omega),← List.map_append,zE]
   refine (zAL (L+100) (by omega) (G++zar (t+10) r.st) S (by rw [List.length_append]; omega) (by omega) ?_ _ _ _ _ _ (L+100) 0 (by omega) (by omega)).trans ?_
   ·intro x hx
    have:=hI.cov x hx
    rw [zxR,hdl2]
    rcases List.mem_append.1 this with q | q
    ·exact List.mem_append_right _ q
    ·exact List.mem_append_left _ q
   ·unfold zcQ
    rw [zh1]
    show k ((((List.length ((zac (t+10) r.st).map Stm.v):Nat):Int)) == 0)=k true
    rw [hkl]
    rfl) (L+100) 0 [] [] r47 d e1 (by rw [e2]; exact zBi) (by omega)
  rw [ees,e2] at main
  exact main
 ·rw [decide_eq_false (by omega:¬ ((l.length:Nat):Int)≤200),Bool.not_false,xM]
end
section
namespace relayEndsL
open Go.ChangeShapes Go.WideShapes Go.ChangeAt Go.RowKit
set_option linter.unusedVariables false
theorem own:ownKnob Try.prog.godebug=none:=by kernel_rfl
theorem zv2:laidOutB Try.prog=true:=by kernel_rfl
set_option maxRecDepth 100000 in
theorem zAB (os:Os) (started:os.Started) (H:Type) (enc:TypeId × Value→H) :
  ReturnsInHanded {} Try.checked os 9 .any (Rows.relayEndsSpec.pre6 enc Try.prog Try.f9 Rows.relayEndsRow.domain false) (Rows.relayEndsSpec.post enc Try.prog Try.f9 false true false false):=by
 refine returnsInHanded_of_change (C:=Try.checked) own started (by kernel_rfl) Try.func9
  (ChangeSpec.witness6 (enc:=enc) (C:=Try.checked) false ⟨#[],#[.slice none 0 0,.slice none 0 0],[]⟩ 8 (by kernel_rfl) (by kernel_rfl) (by kernel_rfl) (by kernel_rfl)) ?_
 intro W base args ds gs before hval0 hW hcnd _
 have hval:∀ (j:Nat) t v,Try.f9.params[j]?=some t→args[j]?=some v→Value.okWide Try.prog W .any base t v:=hval0
 have hW':=hW
 obtain ⟨p,q,hA0,hV,rfl,hfz,hnd⟩:=hW
 have hA:DataW.TrodAll enc Try.prog W 0 (fun _=>true) true Try.f9.params.toList args.toList ds p:=hA0
 rw [Try.params9] at hA hval
 obtain ⟨v0,vs0,d0,ds0,p0,q0,hargs,rfl,rfl,h0,r0⟩:=trodAll_cons hA
 obtain ⟨v1,vs1,d1,ds1,p1,q1,rfl,rfl,rfl,h1,r1⟩:=trodAll_cons r0
 obtain ⟨rfl,rfl,rfl⟩:=trodAll_nil r1
 obtain rfl:args=#[v0,v1]:=by cases args; simp_all
 obtain ⟨rfl,rfl⟩:=trodVars_none hV
 have k0:=h0
 have lt0:∀ x ∈ p0,x.block < W.heap.size:=by obtain ⟨m,hm⟩:=k0; exact DataW.trod_lt m _ _ _ hm
 have k1:=h1
 have lt1:∀ x ∈ p1,x.block < W.heap.size:=by obtain ⟨m,hm⟩:=k1; exact DataW.trod_lt m _ _ _ hm
 obtain ⟨A0,len0,cap0,rfl⟩:=okWide_slice Try.underlying22 (hval 0 22 v0 rfl rfl)
 obtain ⟨x0,hx0,rp0⟩:=zwf (r:=.any) (b0:=base) (ren:=zX fg gls) (d:=20) (ct:=.sl ([.int .i64])) rfl h0 (by kernel_rfl)
 obtain ⟨a0,rfl,hl0,wf0⟩:=hx0.sl_inv
 obtain ⟨A1,len1,cap1,rfl⟩:=okWide_slice Try.underlying22 (hval 1 22 v1 rfl rfl)
 obtain ⟨x1,hx1,rp1⟩:=zwf (r:=.any) (b0:=base) (ren:=zX fg gls) (d:=20) (ct:=.sl ([.int .i64])) rfl h1 (by kernel_rfl)
 obtain ⟨a1,rfl,hl1,wf1⟩:=hx1.sl_inv
 clear hA0 hval0
 obtain ⟨L,hL⟩:=zsx a0 a1 hl0 wf0 hl1 wf1
 obtain ⟨v,b,hev,hk⟩:=zoN L 100 (by decide) Bool [(V.sl 1 a0),(V.sl 1 a1)] [] zus true (hL (fun p=>zus (V.sc (.bool p)) []))
 have hv:=zxu hk
 subst hv
 refine (zwE (us:=[.slice A0 len0 cap0,.slice A1 len1 cap1]) (w:=W) (fun _ _ h=>by cases h) (zA8 L 100) (f:=9) (by kernel_rfl) rfl (fun i x u hx hu=>?_) hev).mono fun e W' ⟨he,bel0⟩=>?_
 ·match i,hx,hu with
  | 0,hx,hu=>cases hx; cases hu; exact rp0
  | 1,hx,hu=>cases hx; cases hu; exact rp1
  | n+2,hx,hu=>simp at hx
 ·have bel:=Kept.below bel0
  subst he
  exact ⟨_,rfl,_,_,_,[],_,[],hW',trodAll_mk1 (shut_bool Try.underlying4 _),(trodAll_cons_mk (Below.trod zv2 (by kernel_rfl) (of_decide_eq_true (by kernel_rfl)) k0 bel lt0) (trodAll_cons_mk (Below.trod zv2 (by kernel_rfl) (of_decide_eq_true (by kernel_rfl)) k1 bel lt1) trodAll_mk0)),rfl,bel.frame _,fun h=>by cases h⟩
theorem over:Rows.relayEndsRow.holds Try.pinned (OpenSpec.ofChange Rows.relayEndsSpec) :=
 OpenClaim.holds_of_wide 9 Try.f9 rfl rfl rfl rfl rfl rfl rfl ⟨rfl,rfl,rfl,rfl,rfl⟩ rfl rfl rfl rfl rfl (by kernel_rfl) Try.func9 (by kernel_rfl)
  (of_decide_eq_true (by kernel_rfl)) (by unfold Func.isWrapper; first | (rw [if_pos (by decide +kernel)]; kernel_rfl) | (rw [if_neg (by decide +kernel)]; exact ⟨rfl,rfl⟩))
  (fun os started H enc _=>zAB os started H enc)
end relayEndsL
theorem relayEnds_holds:Rows.RelayEndsSaid:=relayEndsL.over
end
end Go.Proofs.Ytpbbfpfmdckclaa
