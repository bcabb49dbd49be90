/- AddrbookMoves: for every input the call returns true, and each argument reads afterwards as it read before. No condition. -/
import Derived.Test.YtbimgceighecgaaMAddrbookMoves14
namespace Go.Proofs.Ytbimgceighecgaa
set_option linter.unusedVariables false
set_option linter.unusedSimpArgs false
open List renaming length->XI,drop_of_length_le->WI,replicate->We,drop->XL,append_nil->Ya,take->XK,take_append_of_le_length->Xx,getElem_mem->W1,drop_eq_getElem_cons->WP,drop_append_of_le_length->Xv,take_of_length_le->Xu,nil_append->XD,take_left'->Yh,flatten->XM,drop_append->Yr,append_assoc->Wu,getElem?_eq_getElem->Wb,length_cons->X9,takeWhile_cons->XW
open Bool renaming not_true->Xg,not_false->Yq
open IntKind renaming wrap->QF
open Int renaming toNat_natCast->XT,tmod->XP,tdiv->XQ,toNat->XJ
open Nat renaming le_refl->Wq,zero_add->WB
section
set_option maxRecDepth 100000
variable {β:Type}
theorem zEB(L:Nat)(l:List Plc)(hl:l.length≤1000000)(k:List (List V)→Option β):zp β L (yF l) k=k (yF l):=by
 simp only [zp,zde]
 have hp:=zs4 l
 have hlen:=zK l
 generalize yF l=q at hp hlen
 cases q with
 | nil=>rfl
 | cons h t=>
  simp only [lc]
  rw [xa (by rw [hlen]; exact zt8 (by omega) hl),xa (.inl (by simp)),zy6 hp]
theorem zBm(L:Nat)(b:Bk)(hH:b.H.length≤1000000)(hT:b.T.length≤1000000)(k:zjq β):xB β L b.v k=k (b.salt.getD 0 0) (b.salt.getD 1 0) (b.salt.getD 2 0) (b.salt.getD 3 0) (b.salt.getD 4 0) (b.salt.getD 5 0) (b.salt.getD 6 0) (b.salt.getD 7 0) (b.salt.getD 8 0) (b.salt.getD 9 0) (b.salt.getD 10 0) (b.salt.getD 11 0) (b.salt.getD 12 0) (b.salt.getD 13 0) (b.salt.getD 14 0) (b.salt.getD 15 0) (b.salt.getD 16 0) (b.salt.getD 17 0) (b.salt.getD 18 0) (b.salt.getD 19 0) (b.salt.getD 20 0) (b.salt.getD 21 0) (b.salt.getD 22 0) (b.salt.getD 23 0) (b.salt.getD 24 0) (b.salt.getD 25 0) (b.salt.getD 26 0) (b.salt.getD 27 0) (b.salt.getD 28 0) (b.salt.getD 29 0) (b.salt.getD 30 0) (b.salt.getD 31 0) b.H.length b.T.length (xn b.H) (xn b.T):=by
 unfold xB zma
 rw [xa b.len,zb b 0 (by omega),zb b 1 (by omega),zb b 2 (by omega),zb b 3 (by omega),zb b 4 (by omega),zb b 5 (by omega),zb b 6 (by omega),zb b 7 (by omega),zb b 8 (by omega),zb b 9 (by omega),zb b 10 (by omega),zb b 11 (by omega),zb b 12 (by omega),zb b 13 (by omega),zb b 14 (by omega),zb b 15 (by omega),zb b 16 (by omega),zb b 17 (by omega),zb b 18 (by omega),zb b 19 (by omega),zb b 20 (by omega),zb b 21 (by omega),zb b 22 (by omega),zb b 23 (by omega),zb b 24 (by omega),zb b 25 (by omega),zb b 26 (by omega),zb b 27 (by omega),zb b 28 (by omega),zb b 29 (by omega),zb b 30 (by omega),zb b 31 (by omega)]
 have g1:∀ k:List (List V)→Option β,cL 5 b.v 32 k=k (yF b.H):=znC b.g32
 have g2:∀ k:List (List V)→Option β,cL 5 b.v 33 k=k (yF b.T):=znC b.g33
 rw [g1,g2,zEB L b.H hH,zEB L b.T hT,zK,zK]
 rfl
theorem zIe(L:Nat)(a b:Adr)(k:Bool→Option β):y7 β L a.v b.v k=k (xz a b):=by
 simp only [y7,zpb]
 rw [xF (n:=a.h) rfl,xF (n:=b.h) rfl,yX]
 by_cases h:a.h=b.h
 ·rw [if_pos h,xF (n:=a.p) rfl,xF (n:=b.p) rfl,xz,h]
  congr 1
  simp
 ·rw [if_neg h,xz,beq_eq_false_iff_ne.2 h]; rfl
theorem zCo(L:Nat)(p:Plc)(a:Adr)(k:Bool→List V→Option β):zd β L p.v a.v k=k (xz p.a a) a.v:=by
 unfold zd zmo
 rw [xa (by show 1+3≤5; omega),xa (by show 0+3≤3; omega),p13,zbi,zIe]
theorem zoq(l:List Plc)(z:List V):(xn l++z).length=l.length*5+z.length:=by rw [List.length_append,zak]
theorem zHX{l:List Plc}{i j:Nat}(hi:i<l.length)(hj:j<5)(z:List V):(xn l++z)[i*5+j]?=l[i].v[j]?:=by
 rw [List.getElem?_append_left (by rw [zak]; omega),zqM hi hj]
theorem zFx(l:List Plc)(i:Nat)(hi:i≤l.length)(z:List V):(xn l++z).drop (i*5)=xn (l.drop i)++z:=by
 rw [Xv (by rw [zak]; omega)]
 congr 1
 unfold xn
 rw [zCp (zs4 l),zC0]
theorem zBD(l:List Plc)(i:Nat)(hi:i≤l.length)(z:List V):(xn l++z).take (i*5)=xn (l.take i):=by
 rw [Xx (by rw [zak]; omega)]
 unfold xn
 rw [zAn (zs4 l),ztv]
theorem zKp{l:List Plc}{i:Nat}(hi:i<l.length)(z:List V):XK 5 (XL (i*5) (xn l++z))=l[i].v:=by
 rw [Xv (by rw [zak]; omega),Xx (by rw [List.length_drop,zak]; omega),zvy hi]
theorem zBQ{l:List Plc}{j:Nat}(h:j<l.length)(z:List V)(k:Int→Option β):cI .u32 (xn l++z) (j*5+3) k=k l[j].a.t:=by
 refine xF ?_ k
 rw [zHX h (by omega)]; rfl
theorem zJX{l:List Plc}{j:Nat}(h:j<l.length)(z:List V)(k:Int→Option β):cI .i64 (xn l++z) (j*5+0) k=k l[j].b:=by
 refine xF ?_ k
 rw [zHX h (by omega)]; rfl
theorem zts:∀ (l:List Plc) (z:List V),ye 5 l.length (xn l++z)=yF l
 | [],z=>rfl
 | x::l,z=>by
  have e:xn (x::l)++z=x.v++(xn l++z):=by simp [xn,yF]
  rw [e,X9,ye]
  have h:=zts l z
  show x.v::ye 5 l.length (xn l++z)=yF (x::l)
  rw [h]; rfl
theorem fl1(p:Plc):XM (ye 5 1 p.v)=p.v:=rfl
theorem zHr(L:Nat)(ps:List Plc)(hp:ps.length≤1000000)(z:List V)(a:Adr)(kr:Int→List V→List V→Option β)(kx:List V→List V→Option β)(k:Int→List V→List V→Option β)(hr:∀ i b c,kr i b c=k i b c)(hx:∀ b c,kx b c=k (-1) b c):∀ (m i:Nat),i≤ps.length→ps.length-i<m →
  zah zd L kr kx m ps.length ((ps.length:Nat):Int) (i:Int) (xn ps++z) a.v=k (zbw (fun e=>xz e.a a) (ps.drop i) i) (xn ps++z) a.v:=by
 intro m
 induction m with
 | zero=>intro i h1 h2; omega
 | succ m IH=>
  intro i h1 h2
  unfold zah zbV
  by_cases h:i<ps.length
  ·have ih:=IH (i+1) (by omega) (by omega)
   rw [zaE (by omega),xa (by omega),at0,xa (by rw [zoq]; omega),zKp h,zCo,xa rfl,WP h,zbw,yi,y4 (by omega)]
   cases xz ps[i].a a with
   | true=>exact hr _ _ _
   | false=>exact ih
  ·rw [zaO (by omega),WI (by omega),hx]; rfl
theorem zJO(L:Nat)(ps:List Plc)(hp:ps.length≤1000000)(hL:ps.length<L)(z:List V)(a:Adr)(k:Int→List V→List V→Option β):zn β L ps.length (xn ps++z) a.v k=k (zbw (fun e=>xz e.a a) ps 0) (xn ps++z) a.v:=by
 unfold zn zbc zcv
 rw [show ((0:Int))=((0:Nat):Int) from rfl]
 exact zHr L ps hp z a _ _ k (fun _ _ _=>rfl) (fun _ _=>rfl) L 0 (by omega) (by omega)
theorem zDX(L:Nat)(ps:List Plc)(hp:ps.length≤1000000)(hL:ps.length<L)(a:Adr)(k:Int→List V→Option β):xZ β L ps.length a.v (xn ps) k=k (zbw (fun e=>xz e.a a) ps 0) (xn ps):=by
 unfold xZ zpf
 have h:=fun (k:Int→List V→List V→Option β)=>zJO L ps hp hL [] a k
 simp only [Ya] at h
 rw [h,xa rfl]
theorem zJW(L:Nat)(l:List Plc)(hl:l.length≤1000000)(z:List V)(v:Int)(kx:Nat→Int→Int→List V→Option β):∀ (m i:Nat),i≤l.length→l.length-i<m →
  zdQ L kx m l.length v (i:Int) (xn l++z)=kx l.length v ((i+((l.drop i).takeWhile (fun x=>decide (x.b<v))).length:Nat):Int) (xn l++z):=by
 intro m
 induction m with
 | zero=>intro i h1 h2; omega
 | succ m IH=>
  intro i h1 h2
  unfold zdQ ziL
  by_cases h:i<l.length
  ·have ih:=IH (i+1) (by omega) (by omega)
   have e0:0+XJ (i:Int)*5+0=i*5+0:=by rw [XT]; omega
   rw [zaE (by omega),xa (by omega),e0,zJX h,WP h,XW,yM,yi,y4 (by omega)]
   by_cases hb:l[i].b<v
   ·rw [if_pos hb,if_pos (by simpa using hb),X9]
    refine ih.trans ?_
    congr 2; omega
   ·rw [if_neg hb,if_neg (by simpa using hb)]; rfl
  ·rw [zaO (by omega),WI (by omega)]; rfl
theorem zKG(L:Nat)(l:List Plc)(hl:l.length≤1000000)(z:List V)(v f:Int)(kx:Int→Int→List V→Option β):∀ (m i:Nat),i≤l.length→l.length-i<m →
  zdl L kx m l.length v f (i:Int) (xn l++z)=kx f ((i+((l.drop i).takeWhile (fun x=>x.b==v)).length:Nat):Int) (xn l++z):=by
 intro m
 induction m with
 | zero=>intro i h1 h2; omega
 | succ m IH=>
  intro i h1 h2
  unfold zdl zha
  by_cases h:i<l.length
  ·have ih:=IH (i+1) (by omega) (by omega)
   have e0:0+XJ (i:Int)*5+0=i*5+0:=by rw [XT]; omega
   rw [zaE (by omega),xa (by omega),e0,zJX h,WP h,XW,yX,yi,y4 (by omega)]
   by_cases hb:l[i].b=v
   ·rw [if_pos hb,if_pos (by simpa using hb),X9]
    refine ih.trans ?_
    congr 2; omega
   ·rw [if_neg hb,if_neg (by simpa using hb)]; rfl
  ·rw [zaO (by omega),WI (by omega)]; rfl
theorem zvO(L:Nat)(l:List Plc)(hl:l.length≤1000000)(hL:l.length<L)(z:List V)(v:Int)(k:Int→Int→List V→Option β):yc β L l.length v (xn l++z) k=k ((xv l v:Nat):Int) ((toN l v:Nat):Int) (xn l++z):=by
 unfold yc zij zmg
 rw [show ((0:Int))=((0:Nat):Int) from rfl]
 refine (zJW L l hl z v _ L 0 (by omega) (by omega)).trans ?_
 have hf:=zkp l v
 have e:0+((l.drop 0).takeWhile (fun x=>decide (x.b<v))).length=xv l v:=by rw [List.drop_zero,WB]; rfl
 rw [e]
 unfold zee zg4
 refine (zKG L l hl z v _ _ L (xv l v) (by omega) (by omega)).trans ?_
 rfl
theorem zr7(L:Nat)(l:List Plc)(hl:l.length≤1000000)(z:List V)(i:Nat)(hi:i≤l.length)(p:Plc)(k:List (List V)→Nat→List V→Option β):ya β L l.length (i:Int) 1 (xn l++z) p.v k=k (yF (l.take i++[p]++l.drop i)) (xn l++z).length p.v:=by
 have hlen:(l.take i++[p]++l.drop i).length=l.length+1:=by simp; omega
 have e:zqb 5 l.length 1 i (xn l++z) p.v=yF (l.take i++[p]++l.drop i):=by
  unfold zqb
  rw [zBD l i hi,zBD l l.length (Wq _),Xu (Wq _)]
  have h2:=zFx l i hi []
  rw [Ya,Ya] at h2
  rw [h2]
  have h1:p.v=xn [p]:=by simp [xn,yF]
  rw [h1,← zk7,← zk7]
  exact zkQ hlen.symm
 unfold ya
 rw [xa ⟨by omega,by omega,by omega,by rw [zoq]; omega,rfl,(zt8 hl (by omega)).1,(zt8 hl (by omega)).2⟩,XT,e]
theorem zyh(L:Nat)(l:List Plc)(hl:l.length≤1000000)(z:List V)(i:Nat)(hi:i<l.length):∃ z':List V,z'.length=z.length+5∧∀ (β:Type) (k:Nat→List V→Option β),za β L l.length (i:Int) ((i+1:Nat):Int) (xn l++z) k=k (yQ l i).length (xn (yQ l i)++z'):=by
 have hrl:(yQ l i).length=l.length-1:=by unfold yQ; simp; omega
 have hd:XL (0+(i+1)*5) (xn l++z)=xn (l.drop (i+1))++z:=by rw [WB]; exact zFx l (i+1) (by omega) z
 have hcl:(l.drop (i+1)).length=l.length-(i+1):=by simp
 have hch:ye 5 (l.length-(i+1)) (XL (0+(i+1)*5) (xn l++z))=yF (l.drop (i+1)):=by rw [hd,← hcl]; exact zts _ z
 obtain ⟨w,hw⟩:∃ w,w=XL (i*5+(xn (l.drop (i+1))).length) (xn l++z):=⟨_,rfl⟩
 have hr2:xd (xn l++z) (i*5) (XM (yF (l.drop (i+1))))=xn (yQ l i)++w:=by
  unfold xd yQ
  rw [zBD l i (by omega),zk7]
  show xn (l.take i)++xn (l.drop (i+1))++XL (i*5+(xn (l.drop (i+1))).length) (xn l++z)=_
  rw [← hw]
 have hwl:w.length=z.length+5:=by
  rw [hw,List.length_drop,zoq,zak,hcl]; omega
 have hend:i+(l.length-(i+1))=l.length-1:=by omega
 refine ⟨XM (We 1 [(V.sc (.int .i64 (0:Int))),(V.sc (.int .u32 (0:Int))),(V.sc (.int .u16 (0:Int))),(V.sc (.int .u32 (0:Int))),(V.sc (.int .u32 (0:Int)))])++w.drop 5,by simp [hwl],fun β k=>?_⟩
 have hr3:xd (xn (yQ l i)++w) (0+(l.length-1)*5) (XM (We 1 [(V.sc (.int .i64 (0:Int))),(V.sc (.int .u32 (0:Int))),(V.sc (.int .u16 (0:Int))),(V.sc (.int .u32 (0:Int))),(V.sc (.int .u32 (0:Int)))]))=xn (yQ l i)++(XM (We 1 [(V.sc (.int .i64 (0:Int))),(V.sc (.int .u32 (0:Int))),(V.sc (.int .u16 (0:Int))),(V.sc (.int .u32 (0:Int))),(V.sc (.int .u32 (0:Int)))])++w.drop 5):=by
  have hl5:(xn (yQ l i)).length=(l.length-1)*5:=by rw [zak,hrl]
  unfold xd
  rw [WB,Xx (by omega),Xu (by omega),Yr,WI (by omega),XD,hl5,Wu]
  congr 3
  simp
 unfold za zc0
 simp only [XT,hch,zK,hcl,hend,yi,hr2]
 rw [xa (by omega),xa (by omega),xa (by omega),zaO (by omega),yX,if_neg (by omega),xa (by omega),xa (by omega),xa (by omega),xa (by omega),xa (by omega),show l.length-(l.length-1)=1 by omega,hr3,hrl]
end
section
set_option maxRecDepth 100000
variable {β:Type}
def zfe(s:List Int)(H:List Plc)(a:Adr)(src:Int):List Plc × Bool:=
 if toN H (hbk s a src)-xv H (hbk s a src)≥8 then
  (if zvb H (zcy H (toN H (hbk s a src)-xv H (hbk s a src)) (xv H (hbk s a src)) (xv H (hbk s a src)))≥a.t then (H,false)
   else (zgx (yQ H (zcy H (toN H (hbk s a src)-xv H (hbk s a src)) (xv H (hbk s a src)) (xv H (hbk s a src)))) ⟨hbk s a src,a,src⟩,true))
 else (zgx H ⟨hbk s a src,a,src⟩,true)
theorem zzl(b:Bk)(a:Adr)(src:Int)(h1:¬ zbw (fun x=>xz x.a a) b.T 0≥0)(h2:¬ zbw (fun x=>xz x.a a) b.H 0≥0):zeu b a src=(⟨b.salt,(zfe b.salt b.H a src).1,b.T,b.hs⟩,(zfe b.salt b.H a src).2):=by
 unfold zeu zfe
 rw [if_neg h1,if_neg h2]
 split
 ·split <;> rfl
 ·rfl
theorem zF7(A B C:List Plc){j:Nat}(hj:j<B.length):yQ (A++(B++C)) (A.length+j)=A++(yQ B j++C):=by
 unfold yQ
 rw [List.take_append,Xu (by omega),show A.length+j-A.length=j by omega,Xx (by omega)]
 rw [show A.length+j+1=A.length+(j+1) by omega,Yr,WI (by omega),XD,show A.length+(j+1)-A.length=j+1 by omega,Xv (by omega)]
 simp
theorem zDR{l:List Plc}{v:Int}(h:Srt l){m:Nat}(h1:xv l v≤m)(h2:m<toN l v):toN (yQ l m) v=toN l v-1:=by
 obtain ⟨A,B,C,rfl,hA,hB,hC⟩:=h.split3 v
 rw [zrO hA hB hC] at h1
 rw [zpJ hA hB hC] at h2
 obtain ⟨j,rfl⟩:∃ j,m=A.length+j:=⟨m-A.length,by omega⟩
 have hj:j<B.length:=by omega
 have hBl:(yQ B j).length=B.length-1:=by unfold yQ; simp; omega
 rw [zF7 A B C hj,zpJ hA hB hC,zpJ hA (fun x hx=>hB x ((zcX B j).subset hx)) hC,hBl]
 omega
theorem zHw(l:List Plc)(n i:Nat):zcy l (n+1) i i=zcy l n (i+1) i:=by
 rw [zcy]
 congr 1
 split <;> rfl
theorem zHU(L:Nat)(b:Bk)(hH:b.H.length≤1000000)(z:Nat)(hz:z≤b.H.length)(zs b1 p:List V)(src v:Int)(tl:Nat)(kx:zlG β):∀ (m i c:Nat),i≤z→z-i<m→c<b.H.length →
  zcu yb yc ya za L kx m src v (z:Int) (c:Int) (i:Int) (xn b.H++zs) b1 (b.salt.getD 0 0) (b.salt.getD 1 0) (b.salt.getD 2 0) (b.salt.getD 3 0) (b.salt.getD 4 0) (b.salt.getD 5 0) (b.salt.getD 6 0) (b.salt.getD 7 0) (b.salt.getD 8 0) (b.salt.getD 9 0) (b.salt.getD 10 0) (b.salt.getD 11 0) (b.salt.getD 12 0) (b.salt.getD 13 0) (b.salt.getD 14 0) (b.salt.getD 15 0) (b.salt.getD 16 0) (b.salt.getD 17 0) (b.salt.getD 18 0) (b.salt.getD 19 0) (b.salt.getD 20 0) (b.salt.getD 21 0) (b.salt.getD 22 0) (b.salt.getD 23 0) (b.salt.getD 24 0) (b.salt.getD 25 0) (b.salt.getD 26 0) (b.salt.getD 27 0) (b.salt.getD 28 0) (b.salt.getD 29 0) (b.salt.getD 30 0) (b.salt.getD 31 0) b.H.length tl p 0 0 0 0 0 0 0 0 0 0 0 0 0 0 0 0 0 0 0 0 0 0 0 0 0 0 0 0 0 0 0 0 [] []
   = kx src v (z:Int) ((zcy b.H (z-i) i c:Nat):Int) (xn b.H++zs) b1 (b.salt.getD 0 0) (b.salt.getD 1 0) (b.salt.getD 2 0) (b.salt.getD 3 0) (b.salt.getD 4 0) (b.salt.getD 5 0) (b.salt.getD 6 0) (b.salt.getD 7 0) (b.salt.getD 8 0) (b.salt.getD 9 0) (b.salt.getD 10 0) (b.salt.getD 11 0) (b.salt.getD 12 0) (b.salt.getD 13 0) (b.salt.getD 14 0) (b.salt.getD 15 0) (b.salt.getD 16 0) (b.salt.getD 17 0) (b.salt.getD 18 0) (b.salt.getD 19 0) (b.salt.getD 20 0) (b.salt.getD 21 0) (b.salt.getD 22 0) (b.salt.getD 23 0) (b.salt.getD 24 0) (b.salt.getD 25 0) (b.salt.getD 26 0) (b.salt.getD 27 0) (b.salt.getD 28 0) (b.salt.getD 29 0) (b.salt.getD 30 0) (b.salt.getD 31 0) b.H.length tl p 0 0 0 0 0 0 0 0 0 0 0 0 0 0 0 0 0 0 0 0 0 0 0 0 0 0 0 0 0 0 0 0 [] []:=by
 intro m
 induction m with
 | zero=>intro i c h1 h2 h3; omega
 | succ m IH=>
  intro i c h1 h2 h3
  unfold zcu zfB
  by_cases h:i<z
  ·have hi:i<b.H.length:=by omega
   rw [zaE (by omega),xa (by omega),at3,zBQ hi,xa (by omega),at3,zBQ h3,yM,show z-i=(z-(i+1))+1 by omega,zcy,zhB hi,zhB h3]
   by_cases ht:b.H[i].a.t<b.H[c].a.t
   ·rw [if_pos ht,if_pos ht,yi,y4 (by omega)]
    exact IH (i+1) i (by omega) (by omega) hi
   ·rw [if_neg ht,if_neg ht,yi,y4 (by omega)]
    exact IH (i+1) c (by omega) (by omega) h3
  ·rw [zaO (by omega),show z-i=0 by omega]; rfl
theorem zIg(L:Nat)(hL:200000<L)(b:Bk)(hs:Srt b.H)(hH:b.H.length≤100000)(z b1:List V)(tl:Nat)(a:Adr)(src:Int)(k:zdx β)(k1:zfr β) :
  xX β (L+100) (b.salt.getD 0 0) (b.salt.getD 1 0) (b.salt.getD 2 0) (b.salt.getD 3 0) (b.salt.getD 4 0) (b.salt.getD 5 0) (b.salt.getD 6 0) (b.salt.getD 7 0) (b.salt.getD 8 0) (b.salt.getD 9 0) (b.salt.getD 10 0) (b.salt.getD 11 0) (b.salt.getD 12 0) (b.salt.getD 13 0) (b.salt.getD 14 0) (b.salt.getD 15 0) (b.salt.getD 16 0) (b.salt.getD 17 0) (b.salt.getD 18 0) (b.salt.getD 19 0) (b.salt.getD 20 0) (b.salt.getD 21 0) (b.salt.getD 22 0) (b.salt.getD 23 0) (b.salt.getD 24 0) (b.salt.getD 25 0) (b.salt.getD 26 0) (b.salt.getD 27 0) (b.salt.getD 28 0) (b.salt.getD 29 0) (b.salt.getD 30 0) (b.salt.getD 31 0) b.H.length tl a.v src (xn b.H++z) b1 k k1=if (zfe b.salt b.H a src).2=true then k (b.salt.getD 0 0) (b.salt.getD 1 0) (b.salt.getD 2 0) (b.salt.getD 3 0) (b.salt.getD 4 0) (b.salt.getD 5 0) (b.salt.getD 6 0) (b.salt.getD 7 0) (b.salt.getD 8 0) (b.salt.getD 9 0) (b.salt.getD 10 0) (b.salt.getD 11 0) (b.salt.getD 12 0) (b.salt.getD 13 0) (b.salt.getD 14 0) (b.salt.getD 15 0) (b.salt.getD 16 0) (b.salt.getD 17 0) (b.salt.getD 18 0) (b.salt.getD 19 0) (b.salt.getD 20 0) (b.salt.getD 21 0) (b.salt.getD 22 0) (b.salt.getD 23 0) (b.salt.getD 24 0) (b.salt.getD 25 0) (b.salt.getD 26 0) (b.salt.getD 27 0) (b.salt.getD 28 0) (b.salt.getD 29 0) (b.salt.getD 30 0) (b.salt.getD 31 0) (zfe b.salt b.H a src).1.length tl true (xn b.H++z).length b1 (xn (zfe b.salt b.H a src).1) else k1 (b.salt.getD 0 0) (b.salt.getD 1 0) (b.salt.getD 2 0) (b.salt.getD 3 0) (b.salt.getD 4 0) (b.salt.getD 5 0) (b.salt.getD 6 0) (b.salt.getD 7 0) (b.salt.getD 8 0) (b.salt.getD 9 0) (b.salt.getD 10 0) (b.salt.getD 11 0) (b.salt.getD 12 0) (b.salt.getD 13 0) (b.salt.getD 14 0) (b.salt.getD 15 0) (b.salt.getD 16 0) (b.salt.getD 17 0) (b.salt.getD 18 0) (b.salt.getD 19 0) (b.salt.getD 20 0) (b.salt.getD 21 0) (b.salt.getD 22 0) (b.salt.getD 23 0) (b.salt.getD 24 0) (b.salt.getD 25 0) (b.salt.getD 26 0) (b.salt.getD 27 0) (b.salt.getD 28 0) (b.salt.getD 29 0) (b.salt.getD 30 0) (b.salt.getD 31 0) b.H.length tl false (xn b.H++z) b1:=by
 unfold xX zi9 zne
 rw [xa (by show 0+3≤3; omega),zbi,b.cells,zF0 L b.salt b.hs]
 unfold zfe
 generalize hbk b.salt a src=v
 have hr:=zkp b.H v
 rw [zvO _ b.H (by omega) (by omega),xa rfl,yi,zX (by omega) (by omega),yM]
 by_cases h8:toN b.H v-xv b.H v≥8
 ·obtain ⟨n,hn⟩:∃ n,toN b.H v-xv b.H v=n+1:=⟨toN b.H v-xv b.H v-1,by omega⟩
  rw [if_pos (by omega),if_pos h8,yi,y4 (by omega)]
  refine (zHU (L+100) b (by omega) (toN b.H v) hr.2 z b1 a.v src v tl _ (L+100) (xv b.H v+1) (xv b.H v) (by omega) (by omega) (by omega)).trans ?_
  have hm:=zix b.H (xv b.H v) (toN b.H v) (toN b.H v-xv b.H v) (xv b.H v) (xv b.H v) (Wq _) (by omega) (Wq _) (by omega)
  have he:zcy b.H (toN b.H v-(xv b.H v+1)) (xv b.H v+1) (xv b.H v)=zcy b.H (toN b.H v-xv b.H v) (xv b.H v) (xv b.H v):=by
   rw [hn,zHw]; congr 1; omega
  rw [he]
  generalize zcy b.H (toN b.H v-xv b.H v) (xv b.H v) (xv b.H v)=m at hm ⊢
  have hml:m<b.H.length:=by omega
  unfold zeQ
  rw [xa (by omega),at3,zBQ hml,xF (n:=a.t) rfl,yM,zhB hml]
  by_cases ht:b.H[m].a.t≥a.t
  ·rw [if_pos ht,if_pos ht,if_neg (by simp)]
  ·obtain ⟨z',hz',hdel⟩:=zyh (L+100) b.H (by omega) z m hml
   have hrl:(yQ b.H m).length=b.H.length-1:=by unfold yQ; simp; omega
   have htr:=zDR hs hm.1 hm.2
   have hle:toN (yQ b.H m) v≤(yQ b.H m).length:=(zkp _ v).2
   have hlen:(xn (yQ b.H m)++z').length=(xn b.H++z).length:=by rw [zoq,zoq,hz',hrl]; omega
   rw [if_neg ht,if_neg ht,if_pos rfl,yi,y4 (by omega),hdel,hlen,xa rfl,yi,show QF .i64 ((toN b.H v:Int)-1)=((toN b.H v-1:Nat):Int) by rw [zX (by omega) (by omega)]; omega,xa (by show 0+3≤3; omega),zbi,xa ⟨rfl,by omega⟩,xa (by show 1=1∧4+1≤5; omega),xa ⟨rfl,by omega⟩,zDK,fl1,← htr,zr7 _ _ (by omega) z' _ hle,hlen,xa rfl,zK]
   rfl
 ·rw [if_neg (by omega),if_neg h8,if_pos rfl,xa (by show 0+3≤3; omega),xa ⟨rfl,by omega⟩,xa (by show 1=1∧4+1≤5; omega),xa ⟨rfl,by omega⟩,zDK,fl1,zr7 _ _ (by omega) z _ hr.2,xa rfl,zK]
  rfl
end
section
set_option maxRecDepth 100000
variable {β:Type}
theorem Bk.vv(b:Bk):[V.sc (.int .u8 (b.salt.getD 0 0)),V.sc (.int .u8 (b.salt.getD 1 0)),V.sc (.int .u8 (b.salt.getD 2 0)),V.sc (.int .u8 (b.salt.getD 3 0)),V.sc (.int .u8 (b.salt.getD 4 0)),V.sc (.int .u8 (b.salt.getD 5 0)),V.sc (.int .u8 (b.salt.getD 6 0)),V.sc (.int .u8 (b.salt.getD 7 0)),V.sc (.int .u8 (b.salt.getD 8 0)),V.sc (.int .u8 (b.salt.getD 9 0)),V.sc (.int .u8 (b.salt.getD 10 0)),V.sc (.int .u8 (b.salt.getD 11 0)),V.sc (.int .u8 (b.salt.getD 12 0)),V.sc (.int .u8 (b.salt.getD 13 0)),V.sc (.int .u8 (b.salt.getD 14 0)),V.sc (.int .u8 (b.salt.getD 15 0)),V.sc (.int .u8 (b.salt.getD 16 0)),V.sc (.int .u8 (b.salt.getD 17 0)),V.sc (.int .u8 (b.salt.getD 18 0)),V.sc (.int .u8 (b.salt.getD 19 0)),V.sc (.int .u8 (b.salt.getD 20 0)),V.sc (.int .u8 (b.salt.getD 21 0)),V.sc (.int .u8 (b.salt.getD 22 0)),V.sc (.int .u8 (b.salt.getD 23 0)),V.sc (.int .u8 (b.salt.getD 24 0)),V.sc (.int .u8 (b.salt.getD 25 0)),V.sc (.int .u8 (b.salt.getD 26 0)),V.sc (.int .u8 (b.salt.getD 27 0)),V.sc (.int .u8 (b.salt.getD 28 0)),V.sc (.int .u8 (b.salt.getD 29 0)),V.sc (.int .u8 (b.salt.getD 30 0)),V.sc (.int .u8 (b.salt.getD 31 0)),(V.sl 5 (yF b.H)),(V.sl 5 (yF b.T))]=b.v:=by rw [b.mk_v]; rfl
theorem Bk.vx(b:Bk)(H T:List Plc):[V.sc (.int .u8 (b.salt.getD 0 0)),V.sc (.int .u8 (b.salt.getD 1 0)),V.sc (.int .u8 (b.salt.getD 2 0)),V.sc (.int .u8 (b.salt.getD 3 0)),V.sc (.int .u8 (b.salt.getD 4 0)),V.sc (.int .u8 (b.salt.getD 5 0)),V.sc (.int .u8 (b.salt.getD 6 0)),V.sc (.int .u8 (b.salt.getD 7 0)),V.sc (.int .u8 (b.salt.getD 8 0)),V.sc (.int .u8 (b.salt.getD 9 0)),V.sc (.int .u8 (b.salt.getD 10 0)),V.sc (.int .u8 (b.salt.getD 11 0)),V.sc (.int .u8 (b.salt.getD 12 0)),V.sc (.int .u8 (b.salt.getD 13 0)),V.sc (.int .u8 (b.salt.getD 14 0)),V.sc (.int .u8 (b.salt.getD 15 0)),V.sc (.int .u8 (b.salt.getD 16 0)),V.sc (.int .u8 (b.salt.getD 17 0)),V.sc (.int .u8 (b.salt.getD 18 0)),V.sc (.int .u8 (b.salt.getD 19 0)),V.sc (.int .u8 (b.salt.getD 20 0)),V.sc (.int .u8 (b.salt.getD 21 0)),V.sc (.int .u8 (b.salt.getD 22 0)),V.sc (.int .u8 (b.salt.getD 23 0)),V.sc (.int .u8 (b.salt.getD 24 0)),V.sc (.int .u8 (b.salt.getD 25 0)),V.sc (.int .u8 (b.salt.getD 26 0)),V.sc (.int .u8 (b.salt.getD 27 0)),V.sc (.int .u8 (b.salt.getD 28 0)),V.sc (.int .u8 (b.salt.getD 29 0)),V.sc (.int .u8 (b.salt.getD 30 0)),V.sc (.int .u8 (b.salt.getD 31 0)),(V.sl 5 (yF H)),(V.sl 5 (yF T))]=(⟨b.salt,H,T,b.hs⟩:Bk).v:=by rw [b.mk_v]; rfl
theorem Bk.c32(b:Bk)(k:List (List V)→Option β):cL 5 b.v 32 k=k (yF b.H):=znC b.g32 k
theorem Bk.c33(b:Bk)(k:List (List V)→Option β):cL 5 b.v 33 k=k (yF b.T):=znC b.g33 k
theorem zFG{n:Nat}{l:List Plc}{j:Nat}{t:Int}(h:n=l.length):ye 5 n (xn (zsD l j t))=yF (zsD l j t):=zkQ (by rw [zz0]; exact h)
theorem zCP(L:Nat)(hL:200000<L)(b:Bk)(hH:b.H.length≤1000)(hT:b.T.length≤1000)(a:Adr)(src:Int)(k:List V→Bool→Int→Option β) :
  yV β (L+100) b.v a.v src k=if zdP b=true then k (zeu b a src).1.v (zeu b a src).2 0 else k bk0.v false 6:=by
 unfold yV zm7
 rw [xa b.len,zb b 0 (by omega),zb b 1 (by omega),zb b 2 (by omega),zb b 3 (by omega),zb b 4 (by omega),zb b 5 (by omega),zb b 6 (by omega),zb b 7 (by omega),zb b 8 (by omega),zb b 9 (by omega),zb b 10 (by omega),zb b 11 (by omega),zb b 12 (by omega),zb b 13 (by omega),zb b 14 (by omega),zb b 15 (by omega),zb b 16 (by omega),zb b 17 (by omega),zb b 18 (by omega),zb b 19 (by omega),zb b 20 (by omega),zb b 21 (by omega),zb b 22 (by omega),zb b 23 (by omega),zb b 24 (by omega),zb b 25 (by omega),zb b 26 (by omega),zb b 27 (by omega),zb b 28 (by omega),zb b 29 (by omega),zb b 30 (by omega),zb b 31 (by omega),b.c32,b.c33,b.vv,zA6 L b (by omega) (by omega) (by omega),zvl]
 cases hS:zdP b with
 | false=>
  rw [Yq,zef,if_neg (by simp),zvq]
 | true=>
  have hs:=(ze7 b).1 hS
  rw [Xg,zaU,if_pos rfl,zBm _ b (by omega) (by omega),xa (by show 0+3≤3; omega),zbi,zDX _ b.T (by omega) (by omega),xa rfl,yM]
  by_cases h:zbw (fun x=>xz x.a a) b.T 0≥0
  ·obtain ⟨j,hj,e⟩:=zpS h
   unfold zeu
   rw [if_pos h,if_pos h,e,xa (by omega),at3,cT hj,xF (n:=a.t) rfl,yi,xa (by omega),xa ⟨rfl,by rw [zak]; omega⟩,yi,ztL hj,za5,zFG rfl,b.vx,XT]
  ·rw [if_neg h,xa (by show 0+3≤3; omega),zDX _ b.H (by omega) (by omega),xa rfl,yM]
   by_cases h':zbw (fun x=>xz x.a a) b.H 0≥0
   ·obtain ⟨j,hj,e⟩:=zpS h'
    unfold zeu
    rw [if_pos h',if_neg h,if_pos h',e,xa (by omega),at3,cT hj,xF (n:=a.t) rfl,yi,xa (by omega),xa ⟨rfl,by rw [zak]; omega⟩,yi,ztL hj,za5,zFG rfl,b.vx,XT]
   ·have hl:=fun (k:zdx β) k1=>zIg L hL b hs.h.s (by omega) [] (xn b.T) b.T.length a src k k1
    simp only [Ya] at hl
    rw [if_neg h',xa (by show 0+3≤3; omega),hl,zzl b a src h h']
    cases hr:(zfe b.salt b.H a src).2 with
    | true=>rw [if_pos rfl,xa rfl,za5,za5,b.vx]
    | false=>
     have e1:(zfe b.salt b.H a src).1=b.H:=by
      unfold zfe at hr ⊢
      split at hr
      ·split at hr
       ·rename_i c1 c2; rw [if_pos c1,if_pos c2]
       ·cases hr
      ·cases hr
     rw [if_neg (by simp),xa rfl,za5,za5,b.vx,e1]
theorem eqP(p:Plc)(k:Bool→Option β):eqC 5 p.v p.v k=k true:=by
 unfold eqC Plc.v
 rw [xa ⟨rfl,rfl⟩]
 simp [zfu]
theorem zKq(L:Nat)(hL:200000<L)(k:Bool→Option β):zu β (L+100) k=k true:=by
 have h0:zdP bk0=true:=(ze7 bk0).2 (zFg (We 32 0) (by simp))
 have e0:zeu bk0 ⟨327680,8,3⟩ 7=(⟨We 32 0,[⟨hbk (We 32 0) ⟨327680,8,3⟩ 7,⟨327680,8,3⟩,7⟩],[],by rfl⟩,true):=rfl
 have h1:SndB (zeu bk0 ⟨327680,8,3⟩ 7).1:=zxk ((ze7 bk0).1 h0) _ _
 rw [e0] at h1
 have e1:∀ v:Int,zeu ⟨We 32 0,[⟨v,⟨327680,8,3⟩,7⟩],[],by rfl⟩ ⟨327680,8,9⟩ 8=(⟨We 32 0,[⟨v,⟨327680,8,9⟩,7⟩],[],by rfl⟩,false):=fun v=>rfl
 unfold zu zs6
 have ea:∀ t:Int,[(Qc (327680:Int)),(Qb (8:Int)),(Qc t)]=(⟨327680,8,t⟩:Adr).v:=fun t=>rfl
 have es:xd (⟨327680,8,3⟩:Adr).v 2 [(Qc (9:Int))]=(⟨327680,8,9⟩:Adr).v:=rfl
 generalize hbk (We 32 0) ⟨327680,8,3⟩ 7=v at e0 h1
 rw [yi,ea,xa (by show 0+3≤3; omega),zbi,zvq,zCP L hL bk0 (by simp [bk0]) (by simp [bk0]),if_pos h0,e0,xa ⟨Bk.len _,by omega⟩,z34 _ (by simp),yi,xa (by show 1=1∧2+1≤3; omega),yi,es,xa (by rw [Bk.len]; omega),xa (by show 0+3≤3; omega),Bk.take,Bk.dem,zbi,zCP L hL _ (by simp) (by simp),if_pos ((ze7 _).2 h1),e1,xa ⟨Bk.len _,by omega⟩,z34 _ (by simp),yi,yX,if_pos rfl,yX,if_pos rfl,zef,Yq,zef,yY (Bk.g32 _)]
 rw [yY (Bk.g32 _)]
 rw [show ((((yF [(⟨v,⟨327680,8,9⟩,7⟩:Plc)]).length:Nat):Int)==1)=true from rfl,zef,zzy (j:=0) (c:=(⟨v,⟨327680,8,9⟩,7⟩:Plc).v) (by decide) rfl,xF (n:=9) rfl,yX,if_pos rfl,yY (Bk.g32 _),zzy (j:=0) (c:=(⟨v,⟨327680,8,9⟩,7⟩:Plc).v) (by decide) rfl,xF (n:=7) rfl,yX,if_pos rfl,xa (by show 0+3≤3; omega),zvr]
 rfl
end
section
set_option maxRecDepth 100000
variable {β:Type}
theorem zKa(L:Nat)(es:List (List V))(k:List (List V)→Int→Option β):yA β L es k=k es 0:=by
 simp only [yA,zvT,yi]
end
section
set_option maxRecDepth 100000
variable {β:Type}
theorem zGI(L:Nat)(ps:List Plc)(hp:ps.length≤1000000)(a:Adr)(kr:Int→List V→Option β)(kx:List V→Option β)(k:Int→List V→Option β)(hr:∀ i c,kr i c=k i c)(hx:∀ c,kx c=k (-1) c):∀ (m i:Nat),i≤ps.length→ps.length-i<m →
  z6 zd L kr kx m (yF ps) ((ps.length:Nat):Int) (i:Int) a.v=k (zbw (fun e=>xz e.a a) (ps.drop i) i) a.v:=by
 intro m
 induction m with
 | zero=>intro i h1 h2; omega
 | succ m IH=>
  intro i h1 h2
  unfold z6 zbv
  by_cases h:i<ps.length
  ·have ih:=IH (i+1) (by omega) (by omega)
   rw [zaE (by omega),za4 (za1 h),zmO,zCo,xa rfl,WP h,zbw,yi,y4 (by omega)]
   cases xz ps[i].a a with
   | true=>exact hr _ _
   | false=>exact ih
  ·rw [zaO (by omega),WI (by omega),hx]; rfl
theorem zCv(L:Nat)(ps:List Plc)(hp:ps.length≤1000000)(hL:ps.length<L)(a:Adr)(k:Int→Option β):xQ β L (yF ps) a.v k=k (zbw (fun e=>xz e.a a) ps 0):=by
 unfold xQ zlw ym zaN zca
 rw [show ((0:Int))=((0:Nat):Int) from rfl,zK]
 refine (zGI L ps hp a _ _ (fun v0 v1=>chk ([(XI v1)]=[(XI a.v)]) (k v0)) (fun _ _=>rfl) (fun _=>rfl) L 0 (by omega) (by omega)).trans ?_
 rw [xa rfl]; rfl
theorem zGc(L:Nat)(b:Bk)(hH:b.H.length≤1000000)(z:Nat)(hz:z≤b.H.length)(zs p:List V)(src v:Int)(T:List (List V))(kx:zit β):∀ (m i c:Nat),i≤z→z-i<m→c<b.H.length →
  zbT yb yc ya za L kx m src v (z:Int) (c:Int) (i:Int) (xn b.H++zs) (b.salt.getD 0 0) (b.salt.getD 1 0) (b.salt.getD 2 0) (b.salt.getD 3 0) (b.salt.getD 4 0) (b.salt.getD 5 0) (b.salt.getD 6 0) (b.salt.getD 7 0) (b.salt.getD 8 0) (b.salt.getD 9 0) (b.salt.getD 10 0) (b.salt.getD 11 0) (b.salt.getD 12 0) (b.salt.getD 13 0) (b.salt.getD 14 0) (b.salt.getD 15 0) (b.salt.getD 16 0) (b.salt.getD 17 0) (b.salt.getD 18 0) (b.salt.getD 19 0) (b.salt.getD 20 0) (b.salt.getD 21 0) (b.salt.getD 22 0) (b.salt.getD 23 0) (b.salt.getD 24 0) (b.salt.getD 25 0) (b.salt.getD 26 0) (b.salt.getD 27 0) (b.salt.getD 28 0) (b.salt.getD 29 0) (b.salt.getD 30 0) (b.salt.getD 31 0) b.H.length T p 0 0 0 0 0 0 0 0 0 0 0 0 0 0 0 0 0 0 0 0 0 0 0 0 0 0 0 0 0 0 0 0 [] []
   = kx src v (z:Int) ((zcy b.H (z-i) i c:Nat):Int) (xn b.H++zs) (b.salt.getD 0 0) (b.salt.getD 1 0) (b.salt.getD 2 0) (b.salt.getD 3 0) (b.salt.getD 4 0) (b.salt.getD 5 0) (b.salt.getD 6 0) (b.salt.getD 7 0) (b.salt.getD 8 0) (b.salt.getD 9 0) (b.salt.getD 10 0) (b.salt.getD 11 0) (b.salt.getD 12 0) (b.salt.getD 13 0) (b.salt.getD 14 0) (b.salt.getD 15 0) (b.salt.getD 16 0) (b.salt.getD 17 0) (b.salt.getD 18 0) (b.salt.getD 19 0) (b.salt.getD 20 0) (b.salt.getD 21 0) (b.salt.getD 22 0) (b.salt.getD 23 0) (b.salt.getD 24 0) (b.salt.getD 25 0) (b.salt.getD 26 0) (b.salt.getD 27 0) (b.salt.getD 28 0) (b.salt.getD 29 0) (b.salt.getD 30 0) (b.salt.getD 31 0) b.H.length T p 0 0 0 0 0 0 0 0 0 0 0 0 0 0 0 0 0 0 0 0 0 0 0 0 0 0 0 0 0 0 0 0 [] []:=by
 intro m
 induction m with
 | zero=>intro i c h1 h2 h3; omega
 | succ m IH=>
  intro i c h1 h2 h3
  unfold zbT zer
  by_cases h:i<z
  ·have hi:i<b.H.length:=by omega
   rw [zaE (by omega),xa (by omega),at3,zBQ hi,xa (by omega),at3,zBQ h3,yM,show z-i=(z-(i+1))+1 by omega,zcy,zhB hi,zhB h3]
   by_cases ht:b.H[i].a.t<b.H[c].a.t
   ·rw [if_pos ht,if_pos ht,yi,y4 (by omega)]
    exact IH (i+1) i (by omega) (by omega) hi
   ·rw [if_neg ht,if_neg ht,yi,y4 (by omega)]
    exact IH (i+1) c (by omega) (by omega) h3
  ·rw [zaO (by omega),show z-i=0 by omega]; rfl
theorem zHW(L:Nat)(hL:200000<L)(b:Bk)(hs:Srt b.H)(hH:b.H.length≤100000)(z:List V)(T:List (List V))(a:Adr)(src:Int)(k:zcA β)(k1:zd9 β) :
  zP β (L+100) (b.salt.getD 0 0) (b.salt.getD 1 0) (b.salt.getD 2 0) (b.salt.getD 3 0) (b.salt.getD 4 0) (b.salt.getD 5 0) (b.salt.getD 6 0) (b.salt.getD 7 0) (b.salt.getD 8 0) (b.salt.getD 9 0) (b.salt.getD 10 0) (b.salt.getD 11 0) (b.salt.getD 12 0) (b.salt.getD 13 0) (b.salt.getD 14 0) (b.salt.getD 15 0) (b.salt.getD 16 0) (b.salt.getD 17 0) (b.salt.getD 18 0) (b.salt.getD 19 0) (b.salt.getD 20 0) (b.salt.getD 21 0) (b.salt.getD 22 0) (b.salt.getD 23 0) (b.salt.getD 24 0) (b.salt.getD 25 0) (b.salt.getD 26 0) (b.salt.getD 27 0) (b.salt.getD 28 0) (b.salt.getD 29 0) (b.salt.getD 30 0) (b.salt.getD 31 0) b.H.length T a.v src (xn b.H++z) k k1=if (zfe b.salt b.H a src).2=true then k (b.salt.getD 0 0) (b.salt.getD 1 0) (b.salt.getD 2 0) (b.salt.getD 3 0) (b.salt.getD 4 0) (b.salt.getD 5 0) (b.salt.getD 6 0) (b.salt.getD 7 0) (b.salt.getD 8 0) (b.salt.getD 9 0) (b.salt.getD 10 0) (b.salt.getD 11 0) (b.salt.getD 12 0) (b.salt.getD 13 0) (b.salt.getD 14 0) (b.salt.getD 15 0) (b.salt.getD 16 0) (b.salt.getD 17 0) (b.salt.getD 18 0) (b.salt.getD 19 0) (b.salt.getD 20 0) (b.salt.getD 21 0) (b.salt.getD 22 0) (b.salt.getD 23 0) (b.salt.getD 24 0) (b.salt.getD 25 0) (b.salt.getD 26 0) (b.salt.getD 27 0) (b.salt.getD 28 0) (b.salt.getD 29 0) (b.salt.getD 30 0) (b.salt.getD 31 0) (zfe b.salt b.H a src).1.length T true (xn b.H++z).length (xn (zfe b.salt b.H a src).1) else k1 (b.salt.getD 0 0) (b.salt.getD 1 0) (b.salt.getD 2 0) (b.salt.getD 3 0) (b.salt.getD 4 0) (b.salt.getD 5 0) (b.salt.getD 6 0) (b.salt.getD 7 0) (b.salt.getD 8 0) (b.salt.getD 9 0) (b.salt.getD 10 0) (b.salt.getD 11 0) (b.salt.getD 12 0) (b.salt.getD 13 0) (b.salt.getD 14 0) (b.salt.getD 15 0) (b.salt.getD 16 0) (b.salt.getD 17 0) (b.salt.getD 18 0) (b.salt.getD 19 0) (b.salt.getD 20 0) (b.salt.getD 21 0) (b.salt.getD 22 0) (b.salt.getD 23 0) (b.salt.getD 24 0) (b.salt.getD 25 0) (b.salt.getD 26 0) (b.salt.getD 27 0) (b.salt.getD 28 0) (b.salt.getD 29 0) (b.salt.getD 30 0) (b.salt.getD 31 0) b.H.length T false (xn b.H++z):=by
 unfold zP zgL zj0
 rw [xa (by show 0+3≤3; omega),zbi,b.cells,zF0 L b.salt b.hs]
 unfold zfe
 generalize hbk b.salt a src=v
 have hr:=zkp b.H v
 rw [zvO _ b.H (by omega) (by omega),xa rfl,yi,zX (by omega) (by omega),yM]
 by_cases h8:toN b.H v-xv b.H v≥8
 ·obtain ⟨n,hn⟩:∃ n,toN b.H v-xv b.H v=n+1:=⟨toN b.H v-xv b.H v-1,by omega⟩
  rw [if_pos (by omega),if_pos h8,yi,y4 (by omega)]
  refine (zGc (L+100) b (by omega) (toN b.H v) hr.2 z a.v src v T _ (L+100) (xv b.H v+1) (xv b.H v) (by omega) (by omega) (by omega)).trans ?_
  have hm:=zix b.H (xv b.H v) (toN b.H v) (toN b.H v-xv b.H v) (xv b.H v) (xv b.H v) (Wq _) (by omega) (Wq _) (by omega)
  have he:zcy b.H (toN b.H v-(xv b.H v+1)) (xv b.H v+1) (xv b.H v)=zcy b.H (toN b.H v-xv b.H v) (xv b.H v) (xv b.H v):=by
   rw [hn,zHw]; congr 1; omega
  rw [he]
  generalize zcy b.H (toN b.H v-xv b.H v) (xv b.H v) (xv b.H v)=m at hm ⊢
  have hml:m<b.H.length:=by omega
  unfold zd1
  rw [xa (by omega),at3,zBQ hml,xF (n:=a.t) rfl,yM,zhB hml]
  by_cases ht:b.H[m].a.t≥a.t
  ·rw [if_pos ht,if_pos ht,if_neg (by simp)]
  ·obtain ⟨z',hz',hdel⟩:=zyh (L+100) b.H (by omega) z m hml
   have hrl:(yQ b.H m).length=b.H.length-1:=by unfold yQ; simp; omega
   have htr:=zDR hs hm.1 hm.2
   have hle:toN (yQ b.H m) v≤(yQ b.H m).length:=(zkp _ v).2
   have hlen:(xn (yQ b.H m)++z').length=(xn b.H++z).length:=by rw [zoq,zoq,hz',hrl]; omega
   rw [if_neg ht,if_neg ht,if_pos rfl,yi,y4 (by omega),hdel,hlen,xa rfl,yi,show QF .i64 ((toN b.H v:Int)-1)=((toN b.H v-1:Nat):Int) by rw [zX (by omega) (by omega)]; omega,xa (by show 0+3≤3; omega),zbi,xa ⟨rfl,by omega⟩,xa (by show 1=1∧4+1≤5; omega),xa ⟨rfl,by omega⟩,zDK,fl1,← htr,zr7 _ _ (by omega) z' _ hle,hlen,xa rfl,zK]
   rfl
 ·rw [if_neg (by omega),if_neg h8,if_pos rfl,xa (by show 0+3≤3; omega),xa ⟨rfl,by omega⟩,xa (by show 1=1∧4+1≤5; omega),xa ⟨rfl,by omega⟩,zDK,fl1,zr7 _ _ (by omega) z _ hr.2,xa rfl,zK]
  rfl
end
section
set_option maxRecDepth 100000
variable {β:Type}
def Z5:List V:=[(Qe (0:Int)),(Qc (0:Int)),(Qb (0:Int)),(Qc (0:Int)),(Qc (0:Int))]
def inB(b:Bk)(a:Adr):Prop:=zdP b=true∧zbw (fun x=>xz x.a a) b.H 0≥0
def zt6(b:Bk):Int:=if zdP b=true then 9 else 6
theorem zJh(b:Bk):zt6 b≠0:=by unfold zt6; split <;> omega
theorem zDY(L:Nat)(hL:200000<L)(b:Bk)(hH:b.H.length≤1000)(hT:b.T.length≤1000)(a:Adr)(h:¬ inB b a)(k:zhQ β)(k1:zgb β) :
  zE β (L+100) b.v a.v k k1=k 0 0 0 0 0 0 0 0 0 0 0 0 0 0 0 0 0 0 0 0 0 0 0 0 0 0 0 0 0 0 0 0 [] [] Z5 (zt6 b):=by
 unfold zE zkh
 rw [xa b.len,zb b 0 (by omega),zb b 1 (by omega),zb b 2 (by omega),zb b 3 (by omega),zb b 4 (by omega),zb b 5 (by omega),zb b 6 (by omega),zb b 7 (by omega),zb b 8 (by omega),zb b 9 (by omega),zb b 10 (by omega),zb b 11 (by omega),zb b 12 (by omega),zb b 13 (by omega),zb b 14 (by omega),zb b 15 (by omega),zb b 16 (by omega),zb b 17 (by omega),zb b 18 (by omega),zb b 19 (by omega),zb b 20 (by omega),zb b 21 (by omega),zb b 22 (by omega),zb b 23 (by omega),zb b 24 (by omega),zb b 25 (by omega),zb b 26 (by omega),zb b 27 (by omega),zb b 28 (by omega),zb b 29 (by omega),zb b 30 (by omega),zb b 31 (by omega),b.c32,b.c33,b.vv,zA6 L b (by omega) (by omega) (by omega),zvl]
 unfold zt6
 cases hS:zdP b with
 | false=>rw [Yq,zef,yi,xa (by decide),if_neg (by simp)]; rfl
 | true=>
  have hf:¬ zbw (fun x=>xz x.a a) b.H 0≥0:=fun q=>h ⟨hS,q⟩
  rw [Xg,zaU,xa (by show 0+3≤3; omega),zbi,zCv _ b.H (by omega) (by omega),yM,if_pos (by omega),yi,xa (by decide),if_pos rfl]; rfl
theorem zFb(L:Nat)(hL:200000<L)(b:Bk)(hS:SndB b)(a:Adr)(j:Nat)(hj:j<b.H.length)(hf:zbw (fun x=>xz x.a a) b.H 0=(j:Int)):∃ z:List V,z.length=5∧∀ (β:Type) (k:zhQ β) (k1:zgb β),
  zE β (L+100) b.v a.v k k1=k1 (b.salt.getD 0 0) (b.salt.getD 1 0) (b.salt.getD 2 0) (b.salt.getD 3 0) (b.salt.getD 4 0) (b.salt.getD 5 0) (b.salt.getD 6 0) (b.salt.getD 7 0) (b.salt.getD 8 0) (b.salt.getD 9 0) (b.salt.getD 10 0) (b.salt.getD 11 0) (b.salt.getD 12 0) (b.salt.getD 13 0) (b.salt.getD 14 0) (b.salt.getD 15 0) (b.salt.getD 16 0) (b.salt.getD 17 0) (b.salt.getD 18 0) (b.salt.getD 19 0) (b.salt.getD 20 0) (b.salt.getD 21 0) (b.salt.getD 22 0) (b.salt.getD 23 0) (b.salt.getD 24 0) (b.salt.getD 25 0) (b.salt.getD 26 0) (b.salt.getD 27 0) (b.salt.getD 28 0) (b.salt.getD 29 0) (b.salt.getD 30 0) (b.salt.getD 31 0) (yQ b.H j).length b.T.length b.H[j].v 0 (xn (yQ b.H j)++z) (xn b.T):=by
 have hH:=hS.lenH
 have hT:=hS.lenT
 obtain ⟨z,hz,hd⟩:=zyh (L+100) b.H (by omega) [] j hj
 simp only [Ya] at hd
 refine ⟨z,by simpa using hz,fun β k k1=>?_⟩
 have hlen:(xn (yQ b.H j)++z).length=(xn b.H).length:=by
  have:(yQ b.H j).length=b.H.length-1:=by unfold yQ; simp; omega
  rw [zoq,zak,hz,this]; simp; omega
 unfold zE zkh
 rw [xa b.len,zb b 0 (by omega),zb b 1 (by omega),zb b 2 (by omega),zb b 3 (by omega),zb b 4 (by omega),zb b 5 (by omega),zb b 6 (by omega),zb b 7 (by omega),zb b 8 (by omega),zb b 9 (by omega),zb b 10 (by omega),zb b 11 (by omega),zb b 12 (by omega),zb b 13 (by omega),zb b 14 (by omega),zb b 15 (by omega),zb b 16 (by omega),zb b 17 (by omega),zb b 18 (by omega),zb b 19 (by omega),zb b 20 (by omega),zb b 21 (by omega),zb b 22 (by omega),zb b 23 (by omega),zb b 24 (by omega),zb b 25 (by omega),zb b 26 (by omega),zb b 27 (by omega),zb b 28 (by omega),zb b 29 (by omega),zb b 30 (by omega),zb b 31 (by omega),b.c32,b.c33,b.vv,zA6 L b (by omega) (by omega) (by omega),zvl,(ze7 b).2 hS,Xg,zaU,xa (by show 0+3≤3; omega),zbi,zCv _ b.H (by omega) (by omega),hf,yM,if_neg (by omega),za4 (za1 hj),zmO,xa ⟨rfl,by omega⟩,z5,yi,zBm _ b (by omega) (by omega),yi,y4 (by omega),hd,hlen,xa rfl,xa (by show 0+5≤5; omega),zmO,xa ⟨rfl,by omega⟩,z5,yi,xa ⟨rfl,rfl,by omega⟩]
theorem zHV(L:Nat)(hL:200000<L)(b:Bk)(hH:b.H.length≤1000)(hT:b.T.length≤1000)(a:Adr)(h:¬ inB b a)(k:List V→Int→Option β):yk β (L+100) b.v a.v k=k bk0.v (zt6 b):=by
 unfold yk zkE
 rw [xa b.len,zb b 0 (by omega),zb b 1 (by omega),zb b 2 (by omega),zb b 3 (by omega),zb b 4 (by omega),zb b 5 (by omega),zb b 6 (by omega),zb b 7 (by omega),zb b 8 (by omega),zb b 9 (by omega),zb b 10 (by omega),zb b 11 (by omega),zb b 12 (by omega),zb b 13 (by omega),zb b 14 (by omega),zb b 15 (by omega),zb b 16 (by omega),zb b 17 (by omega),zb b 18 (by omega),zb b 19 (by omega),zb b 20 (by omega),zb b 21 (by omega),zb b 22 (by omega),zb b 23 (by omega),zb b 24 (by omega),zb b 25 (by omega),zb b 26 (by omega),zb b 27 (by omega),zb b 28 (by omega),zb b 29 (by omega),zb b 30 (by omega),zb b 31 (by omega),b.c32,b.c33,b.vv,xa (by show 0+3≤3; omega),zbi,zDY L hL b hH hT a h,xa (by decide),yi,zeP,if_neg (zJh b),zvq]
theorem zHo(L:Nat)(hL:200000<L)(b:Bk)(hH:b.H.length≤1000)(hT:b.T.length≤1000)(a:Adr)(h:¬ inB b a)(k:List V→Int→Option β):xf β (L+100) b.v a.v k=k bk0.v (zt6 b):=by
 unfold xf zoY
 rw [xa (by rw [b.len]; omega),b.take,b.dem,zuZ _ b (by omega) (by omega) (by omega)]
 unfold zt6
 cases hS:zdP b with
 | false=>rw [Yq,zef,if_neg (by simp),zvq]
 | true=>
  have hf:¬ zbw (fun x=>xz x.a a) b.H 0≥0:=fun q=>h ⟨hS,q⟩
  rw [Xg,zaU,yY b.g32,xa (by show 0+3≤3; omega),zbi,zrX _ b.H (by omega) (by omega),yM,if_pos (by omega),if_pos rfl,zvq]
theorem zD4{l:List Plc}{a:Adr}(h:∀ x∈l,xz x.a a=false):¬ zbw (fun x=>xz x.a a) l 0≥0:=by
 rcases znE (fun x:Plc=>xz x.a a) l 0 with ⟨h1,h2⟩ | ⟨j,hj,h1,h2,h3⟩
 ·omega
 ·have:=h _ (W1 hj)
  rw [h3] at this; cases this
theorem zIm(L:Nat)(hL:200000<L)(b:Bk)(hS:SndB b)(a:Adr)(j:Nat)(hj:j<b.H.length)(hf:zbw (fun x=>xz x.a a) b.H 0=(j:Int))(k:List V→Int→Option β):yk β (L+100) b.v a.v k=k (zqw b j b.H[j]).v 0:=by
 have hH:=hS.lenH
 have hT:=hS.lenT
 have hrl:(yQ b.H j).length≤b.H.length:=(zcX _ _).length_le
 obtain ⟨z,hz,ht⟩:=zFb L hL b hS a j hj hf
 unfold yk zkE
 rw [xa b.len,zb b 0 (by omega),zb b 1 (by omega),zb b 2 (by omega),zb b 3 (by omega),zb b 4 (by omega),zb b 5 (by omega),zb b 6 (by omega),zb b 7 (by omega),zb b 8 (by omega),zb b 9 (by omega),zb b 10 (by omega),zb b 11 (by omega),zb b 12 (by omega),zb b 13 (by omega),zb b 14 (by omega),zb b 15 (by omega),zb b 16 (by omega),zb b 17 (by omega),zb b 18 (by omega),zb b 19 (by omega),zb b 20 (by omega),zb b 21 (by omega),zb b 22 (by omega),zb b 23 (by omega),zb b 24 (by omega),zb b 25 (by omega),zb b 26 (by omega),zb b 27 (by omega),zb b 28 (by omega),zb b 29 (by omega),zb b 30 (by omega),zb b 31 (by omega),b.c32,b.c33,b.vv,xa (by show 0+3≤3; omega),zbi,ht,xa ⟨rfl,by omega⟩,z5,yi,zeP,if_pos rfl,xa (by show 1+3≤5; omega),b.cells,p13,zI2 L b.salt b.hs,xa (by show 1=1∧0+1≤5; omega),yi,zJ9,cB0,zsB]
 have hd:∀ y∈b.T,xz y.a b.H[j].a=false:=fun y hy=>hS.d _ (W1 hj) y hy
 have hpa:(zeG b b.H[j]).a=b.H[j].a:=zqa _ _
 unfold zqw
 have hb:(zeG b b.H[j]).b=tbk b.salt b.H[j].a:=zsB _ _
 generalize zeG b b.H[j]=p at hb hpa ⊢
 generalize tbk b.salt b.H[j].a=v at hb ⊢
 have hr:=zkp b.T v
 have hbd:=fun (k:Int→Int→List V→Option β)=>zvO (L+100) b.T (by omega) (by omega) [] v k
 simp only [Ya] at hbd
 have h5:ye 5 (yQ b.H j).length (xn (yQ b.H j)++z)=yF (yQ b.H j):=zts _ _
 rw [hbd,xa rfl,yi,zX (by omega) (by omega),yM]
 by_cases h8:toN b.T v-xv b.T v≥8
 ·have hl:xv b.T v<b.T.length:=by omega
  obtain ⟨z2,hz2,hdel⟩:=zyh (L+100) b.T (by omega) [] (xv b.T v) hl
  simp only [Ya] at hdel
  have hrt:(yQ b.T (xv b.T v)).length=b.T.length-1:=by unfold yQ; simp; omega
  have hlen:(xn (yQ b.T (xv b.T v))++z2).length=(xn b.T).length:=by rw [zoq,zak,hz2,hrt]; simp; omega
  have htr:=zDR hS.t.s (Wq _) (show xv b.T v<toN b.T v by omega)
  have hle:toN (yQ b.T (xv b.T v)) v≤(yQ b.T (xv b.T v)).length:=(zkp _ v).2
  have hold1:∀ x∈zgx (yQ b.T (xv b.T v)) p,xz x.a b.T[xv b.T v].a=false:=by
   intro x hx
   rcases zr4 hx with rfl | hx
   ·rw [hpa,zf0]; exact hd _ (W1 hl)
   ·exact zCX hS.t.n hl x hx
  have hold2:∀ x∈yQ b.H j,xz x.a b.T[xv b.T v].a=false:=by
   intro x hx
   rw [zf0]; exact hS.d x ((zcX _ _).subset hx) _ (W1 hl)
  have hins:yF (XK (toN (yQ b.T (xv b.T v)) v) (yQ b.T (xv b.T v))++[p]++XL (toN (yQ b.T (xv b.T v)) v) (yQ b.T (xv b.T v)))=yF (zgx (yQ b.T (xv b.T v)) p):=by unfold zgx; rw [hb]
  have hlw:=fun (a:Adr) (src:Int) (T:List (List V)) (k:zcA β) k1=>zHW L hL ⟨b.salt,yQ b.H j,[],b.hs⟩ (hS.h.sub (zcX _ _)).s (by show (yQ b.H j).length≤100000; omega) z T a src k k1
  simp only at hlw
  rw [if_neg (by omega),if_pos h8,xa (by omega),at0,xa (by rw [zak]; omega),zzD hl,xa ⟨rfl,by omega⟩,z3,yi,yi,y4 (by omega),hdel,hlen,xa rfl,yi,show QF .i64 ((toN b.T v:Int)-1)=((toN b.T v-1:Nat):Int) by rw [zX (by omega) (by omega)]; omega,xa (by show 0+5≤5; omega),zmO,xa ⟨rfl,by omega⟩,z5,fl1,← htr,zr7 _ _ (by omega) z2 _ hle,hlen,xa rfl,hins,xa (by show 0+3≤3; omega),xa (by show 0+3≤3; omega),zbi,zvr,hlw]
  rw [Wb hl]
  simp only
  rw [zzl _ _ _ (zD4 hold1) (zD4 hold2)]
  simp only
  cases hc:(zfe b.salt (yQ b.H j) b.T[xv b.T v].a (grp b.T[xv b.T v].a)).2 with
  | true=>
   rw [if_pos rfl,zji,za5,b.vx]
  | false=>
   have e1:(zfe b.salt (yQ b.H j) b.T[xv b.T v].a (grp b.T[xv b.T v].a)).1=yQ b.H j:=by
    unfold zfe at hc ⊢
    split at hc
    ·split at hc
     ·rename_i c1 c2; rw [if_pos c1,if_pos c2]
     ·cases hc
    ·cases hc
   rw [if_neg (by simp),zji,h5,b.vx,e1]
 ·have hai:=zr7 (β:=β) (L+100) b.T (by omega) [] (toN b.T v) hr.2 p
  simp only [Ya] at hai
  have hins:yF (XK (toN b.T v) b.T++[p]++XL (toN b.T v) b.T)=yF (zgx b.T p):=by unfold zgx; rw [hb]
  rw [if_pos (by omega),if_neg h8,xa (by show 0+5≤5; omega),zmO,xa ⟨rfl,by omega⟩,z5,fl1,hai,xa rfl,hins,h5,b.vx]
end
section
set_option maxRecDepth 100000
variable {β:Type}
theorem zI5(L:Nat)(hL:200000<L)(b:Bk)(hS:SndB b)(a:Adr)(j:Nat)(hj:j<b.H.length)(hf:zbw (fun x=>xz x.a a) b.H 0=(j:Int))(k:List V→Int→Option β):xl β (L+100) b.v a.v k=k (⟨b.salt,yQ b.H j,b.T,b.hs⟩:Bk).v 0:=by
 obtain ⟨z,hz,ht⟩:=zFb L hL b hS a j hj hf
 have h5:ye 5 (yQ b.H j).length (xn (yQ b.H j)++z)=yF (yQ b.H j):=zts _ _
 unfold xl zlT
 rw [xa b.len,zb b 0 (by omega),zb b 1 (by omega),zb b 2 (by omega),zb b 3 (by omega),zb b 4 (by omega),zb b 5 (by omega),zb b 6 (by omega),zb b 7 (by omega),zb b 8 (by omega),zb b 9 (by omega),zb b 10 (by omega),zb b 11 (by omega),zb b 12 (by omega),zb b 13 (by omega),zb b 14 (by omega),zb b 15 (by omega),zb b 16 (by omega),zb b 17 (by omega),zb b 18 (by omega),zb b 19 (by omega),zb b 20 (by omega),zb b 21 (by omega),zb b 22 (by omega),zb b 23 (by omega),zb b 24 (by omega),zb b 25 (by omega),zb b 26 (by omega),zb b 27 (by omega),zb b 28 (by omega),zb b 29 (by omega),zb b 30 (by omega),zb b 31 (by omega),b.c32,b.c33,b.vv,xa (by show 0+3≤3; omega),zbi,ht,xa ⟨rfl,by omega⟩,yi,h5,za5,b.vx]
theorem zH5(L:Nat)(hL:200000<L)(b:Bk)(hH:b.H.length≤1000)(hT:b.T.length≤1000)(a:Adr)(h:¬ inB b a)(k:List V→Int→Option β):xl β (L+100) b.v a.v k=k bk0.v (zt6 b):=by
 unfold xl zlT
 rw [xa b.len,zb b 0 (by omega),zb b 1 (by omega),zb b 2 (by omega),zb b 3 (by omega),zb b 4 (by omega),zb b 5 (by omega),zb b 6 (by omega),zb b 7 (by omega),zb b 8 (by omega),zb b 9 (by omega),zb b 10 (by omega),zb b 11 (by omega),zb b 12 (by omega),zb b 13 (by omega),zb b 14 (by omega),zb b 15 (by omega),zb b 16 (by omega),zb b 17 (by omega),zb b 18 (by omega),zb b 19 (by omega),zb b 20 (by omega),zb b 21 (by omega),zb b 22 (by omega),zb b 23 (by omega),zb b 24 (by omega),zb b 25 (by omega),zb b 26 (by omega),zb b 27 (by omega),zb b 28 (by omega),zb b 29 (by omega),zb b 30 (by omega),zb b 31 (by omega),b.c32,b.c33,b.vv,xa (by show 0+3≤3; omega),zbi,zDY L hL b hH hT a h,xa (by decide),yi]
 rfl
theorem zH7(L:Nat)(hL:200000<L)(b:Bk)(hH:b.H.length≤1000)(hT:b.T.length≤1000)(a:Adr)(h:¬ inB b a)(k:List V→Int→Option β):zx β (L+100) b.v a.v k=k bk0.v (zt6 b):=by
 unfold zx zqo
 rw [xa (by rw [b.len]; omega),b.take,b.dem,zuZ _ b (by omega) (by omega) (by omega)]
 unfold zt6
 cases hS:zdP b with
 | false=>rw [Yq,zef,if_neg (by simp),zvq]
 | true=>
  have hf:¬ zbw (fun x=>xz x.a a) b.H 0≥0:=fun q=>h ⟨hS,q⟩
  rw [Xg,zaU,yY b.g32,xa (by show 0+3≤3; omega),zbi,zrX _ b.H (by omega) (by omega),yM,if_pos (by omega),if_pos rfl,zvq]
theorem zJB(L:Nat)(hL:200000<L)(b:Bk)(hS:SndB b)(a:Adr)(j:Nat)(hj:j<b.H.length)(hf:zbw (fun x=>xz x.a a) b.H 0=(j:Int))(k:List V→Int→Option β):zx β (L+100) b.v a.v k=k (⟨b.salt,yQ b.H j,b.T,b.hs⟩:Bk).v 0:=by
 have hH:=hS.lenH
 have hT:=hS.lenT
 unfold zx zqo
 rw [xa (by rw [b.len]; omega),b.take,b.dem,zuZ _ b (by omega) (by omega) (by omega),(ze7 b).2 hS,Xg,zaU,yY b.g32,xa (by show 0+3≤3; omega),zbi,zrX _ b.H (by omega) (by omega),hf,yM,if_neg (by omega),xa (by rw [b.len]; omega),zge _ b (by omega) (by omega),ztw _ b.H (by omega) j hj,xa rfl,za5,b.vx]
end
section
set_option maxRecDepth 100000
variable {β:Type}
theorem zzc(L:Nat)(l:List Plc)(hl:l.length≤1000000)(hL:l.length<L)(k:Bool→Option β):xO β L (yF l) (yF l) k=k true:=by
 have loop:∀ (kr:Bool→Option β) (kx:Option β) (m i:Nat),i≤l.length→l.length-i<m→zdj L kr kx m (yF l) (yF l) (i:Int)=kx:=by
  intro kr kx m
  induction m with
  | zero=>intro i h1 h2; omega
  | succ m ih=>
   intro i h1 h2
   simp only [zdj,zg0,yi,zK]
   by_cases hi:i<l.length
   ·rw [zaE (by omega),za4 (za1 hi),za4 (za1 hi),zmO,eqP,y4 (by omega)]
    exact ih (i+1) (by omega) (by omega)
   ·rw [zaO (by omega)]
 simp only [xO,zhs,zkV]
 rw [zeP,if_pos rfl]
 exact loop _ _ L 0 (by omega) (by omega)
theorem ztB(L:Nat)(b:Bk)(hH:b.H.length≤1000000)(hT:b.T.length≤1000000)(hHL:b.H.length<L)(hTL:b.T.length<L)(k:Bool→Option β):yt β L b.v b.v k=k true:=by
 unfold yt zsP
 rw [xa (by rw [b.len]; omega),xa (by rw [b.len]; omega),b.t32,zJi .u8 b.hs b.hs,decide_eq_true rfl,zef,yY b.g32,yY b.g32,zzc L b.H hH hHL,zef,yY b.g33,yY b.g33,zzc L b.T hT hTL]
end
section
set_option maxRecDepth 100000
variable {β:Type}
def Plc.atB(e:Plc)(v:Int):Plc:=⟨v,e.a,e.s⟩
def Plc.atH(e:Plc)(v:Int):Plc:=⟨e.b,⟨v,e.a.p,e.a.t⟩,e.s⟩
def Plc.atS(e:Plc)(v:Int):Plc:=⟨e.b,e.a,v⟩
theorem zxH{l:List Plc}{i j:Nat}(hi:i<l.length)(hj:j<5)(v:V)(p:Plc)(h:l[i].v.set j v=p.v):xd (xn l) (i*5+j) [v]=xn (l.set i p):=by
 unfold xn
 rw [zIa (by omega) (zs4 l) hj (za1 hi),h]
 congr 1
 simp [yF,List.map_set]
theorem zEr{n:Nat}{l:List Plc}{j:Nat}{p:Plc}(h:n=l.length):ye 5 n (xn (l.set j p))=yF (l.set j p):=zkQ (by rw [List.length_set]; exact h)
theorem zIJ(L:Nat)(b:Bk)(hH:b.H.length≤512)(hT:b.T.length≤512)(what at_:Int):∃ c:Bk,c.H.length≤513∧c.T.length≤513∧c.salt=b.salt∧∀ (β:Type) (k:List V→Option β),xk β L b.v what at_ k=k c.v:=by
 have hself:b.H.length≤513∧b.T.length≤513:=⟨by omega,by omega⟩
 have pre:∀ (β:Type) (k:List V→Option β) (A B:Option β),True:=fun _ _ _ _=>trivial
 by_cases h0:0<b.H.length
 ·obtain ⟨j',j1,j2,qj⟩:=zz6 L at_ (b.H.length:Int) (by omega) (by omega)
  obtain ⟨j,rfl⟩:∃ j:Nat,j'=j:=⟨j'.toNat,by omega⟩
  have hj:j<b.H.length:=by omega
  obtain ⟨w,w1,w2,qw⟩:=zz6 L what 6 (by omega) (by omega)
  obtain ⟨v,v1,v2,qv⟩:=zz6 L at_ 70 (by omega) (by omega)
  have eB:0+XJ (j:Int)*5+0=j*5+0:=by rw [XT]; omega
  have eH:0+XJ (j:Int)*5+1+0=j*5+1:=by rw [XT]; omega
  have eS:0+XJ (j:Int)*5+4=j*5+4:=by rw [XT]; omega
  have gH:(xn b.H)[j*5+1]?=some (.sc (.int .u32 b.H[j].a.h)):=by rw [zqM hj (by omega)]; rfl
  have gS:(xn b.H)[j*5+4]?=some (.sc (.int .u32 b.H[j].s)):=by rw [zqM hj (by omega)]; rfl
  have hx:∀ (c:Bk),c.H.length≤513→c.T.length≤513→c.salt=b.salt→(∀ (β:Type) (k:List V→Option β),xk β L b.v what at_ k=k c.v)→∃ c:Bk,c.H.length≤513∧c.T.length≤513∧c.salt=b.salt∧∀ (β:Type) (k:List V→Option β),xk β L b.v what at_ k=k c.v:=fun c a1 a2 a3 a4=>⟨c,a1,a2,a3,a4⟩
  by_cases c0:w=0
  ·refine hx ⟨b.salt,b.H.set j (b.H[j].atB (v-3)),b.T,b.hs⟩ (by simp; omega) (by show b.T.length≤513; omega) rfl (fun β k=>?_)
   unfold xk zdG
   rw [xa b.len,zb b 0 (by omega),zb b 1 (by omega),zb b 2 (by omega),zb b 3 (by omega),zb b 4 (by omega),zb b 5 (by omega),zb b 6 (by omega),zb b 7 (by omega),zb b 8 (by omega),zb b 9 (by omega),zb b 10 (by omega),zb b 11 (by omega),zb b 12 (by omega),zb b 13 (by omega),zb b 14 (by omega),zb b 15 (by omega),zb b 16 (by omega),zb b 17 (by omega),zb b 18 (by omega),zb b 19 (by omega),zb b 20 (by omega),zb b 21 (by omega),zb b 22 (by omega),zb b 23 (by omega),zb b 24 (by omega),zb b 25 (by omega),zb b 26 (by omega),zb b 27 (by omega),zb b 28 (by omega),zb b 29 (by omega),zb b 30 (by omega),zb b 31 (by omega),b.c32,b.c33,b.vv,zge _ b (by omega) (by omega),yM,if_pos (by omega),qj,xa (by omega),qw,yX,if_pos c0,qv,yi,zX (by omega) (by omega),eB,xa ⟨rfl,by rw [zak]; omega⟩,yi,zxH hj (by omega) _ (b.H[j].atB (v-3)) rfl,zEr rfl,za5,b.vx]
  ·by_cases c1:w=1
   ·refine hx ⟨b.salt,b.H.set j (b.H[j].atH (QF .u32 (b.H[j].a.h+1))),b.T,b.hs⟩ (by simp; omega) (by show b.T.length≤513; omega) rfl (fun β k=>?_)
    unfold xk zdG
    rw [xa b.len,zb b 0 (by omega),zb b 1 (by omega),zb b 2 (by omega),zb b 3 (by omega),zb b 4 (by omega),zb b 5 (by omega),zb b 6 (by omega),zb b 7 (by omega),zb b 8 (by omega),zb b 9 (by omega),zb b 10 (by omega),zb b 11 (by omega),zb b 12 (by omega),zb b 13 (by omega),zb b 14 (by omega),zb b 15 (by omega),zb b 16 (by omega),zb b 17 (by omega),zb b 18 (by omega),zb b 19 (by omega),zb b 20 (by omega),zb b 21 (by omega),zb b 22 (by omega),zb b 23 (by omega),zb b 24 (by omega),zb b 25 (by omega),zb b 26 (by omega),zb b 27 (by omega),zb b 28 (by omega),zb b 29 (by omega),zb b 30 (by omega),zb b 31 (by omega),b.c32,b.c33,b.vv,zge _ b (by omega) (by omega),yM,if_pos (by omega),qj,xa (by omega),qw,yX,if_neg c0,yX,if_pos c1,eH,xF gH,yi,xa ⟨rfl,by rw [zak]; omega⟩,yi,zxH hj (by omega) _ (b.H[j].atH (QF .u32 (b.H[j].a.h+1))) rfl,zEr rfl,za5,b.vx]
   ·by_cases c2:w=2
    ·refine hx ⟨b.salt,b.H.set j (b.H[j].atS (QF .u32 (b.H[j].s+1))),b.T,b.hs⟩ (by simp; omega) (by show b.T.length≤513; omega) rfl (fun β k=>?_)
     unfold xk zdG
     rw [xa b.len,zb b 0 (by omega),zb b 1 (by omega),zb b 2 (by omega),zb b 3 (by omega),zb b 4 (by omega),zb b 5 (by omega),zb b 6 (by omega),zb b 7 (by omega),zb b 8 (by omega),zb b 9 (by omega),zb b 10 (by omega),zb b 11 (by omega),zb b 12 (by omega),zb b 13 (by omega),zb b 14 (by omega),zb b 15 (by omega),zb b 16 (by omega),zb b 17 (by omega),zb b 18 (by omega),zb b 19 (by omega),zb b 20 (by omega),zb b 21 (by omega),zb b 22 (by omega),zb b 23 (by omega),zb b 24 (by omega),zb b 25 (by omega),zb b 26 (by omega),zb b 27 (by omega),zb b 28 (by omega),zb b 29 (by omega),zb b 30 (by omega),zb b 31 (by omega),b.c32,b.c33,b.vv,zge _ b (by omega) (by omega),yM,if_pos (by omega),qj,xa (by omega),qw,yX,if_neg c0,yX,if_neg c1,yX,if_pos c2,eS,xF gS,yi,xa ⟨rfl,by rw [zak]; omega⟩,yi,zxH hj (by omega) _ (b.H[j].atS (QF .u32 (b.H[j].s+1))) rfl,zEr rfl,za5,b.vx]
    ·have ht:∀ l:List Plc,XK (l.length*5) (xn l)=xn l:=fun l=>Xu (by rw [zak]; exact Wq _)
     have fl:∀ (l:List Plc) (p:Plc),xn l++XM (ye 5 1 p.v)=xn (l++[p]):=by
      intro l p
      rw [fl1,zk7]
      congr 1
     have cl:∀ p:Plc,XI (ye 5 1 p.v)=1:=fun p=>rfl
     by_cases c3:w=3
     ·refine hx ⟨b.salt,b.H,b.T++[b.H[j]],b.hs⟩ (by show b.H.length≤513; omega) (by simp; omega) rfl (fun β k=>?_)
      unfold xk zdG
      rw [xa b.len,zb b 0 (by omega),zb b 1 (by omega),zb b 2 (by omega),zb b 3 (by omega),zb b 4 (by omega),zb b 5 (by omega),zb b 6 (by omega),zb b 7 (by omega),zb b 8 (by omega),zb b 9 (by omega),zb b 10 (by omega),zb b 11 (by omega),zb b 12 (by omega),zb b 13 (by omega),zb b 14 (by omega),zb b 15 (by omega),zb b 16 (by omega),zb b 17 (by omega),zb b 18 (by omega),zb b 19 (by omega),zb b 20 (by omega),zb b 21 (by omega),zb b 22 (by omega),zb b 23 (by omega),zb b 24 (by omega),zb b 25 (by omega),zb b 26 (by omega),zb b 27 (by omega),zb b 28 (by omega),zb b 29 (by omega),zb b 30 (by omega),zb b 31 (by omega),b.c32,b.c33,b.vv,zge _ b (by omega) (by omega),yM,if_pos (by omega),qj,xa (by omega),qw,yX,if_neg c0,yX,if_neg c1,yX,if_neg c2,yX,if_pos c3,at0,xa (by rw [zak]; omega),zvy hj,xa ⟨rfl,by omega⟩,z5,cl,xa ⟨by simp only [yr]; omega,by simp only [yr]; omega,.inl (by omega)⟩,yi,ht,fl,za5,zkQ (by simp),b.vx]
     ·by_cases c4:w=4
      ·refine hx ⟨b.salt,b.H++[b.H[j]],b.T,b.hs⟩ (by simp; omega) (by show b.T.length≤513; omega) rfl (fun β k=>?_)
       unfold xk zdG
       rw [xa b.len,zb b 0 (by omega),zb b 1 (by omega),zb b 2 (by omega),zb b 3 (by omega),zb b 4 (by omega),zb b 5 (by omega),zb b 6 (by omega),zb b 7 (by omega),zb b 8 (by omega),zb b 9 (by omega),zb b 10 (by omega),zb b 11 (by omega),zb b 12 (by omega),zb b 13 (by omega),zb b 14 (by omega),zb b 15 (by omega),zb b 16 (by omega),zb b 17 (by omega),zb b 18 (by omega),zb b 19 (by omega),zb b 20 (by omega),zb b 21 (by omega),zb b 22 (by omega),zb b 23 (by omega),zb b 24 (by omega),zb b 25 (by omega),zb b 26 (by omega),zb b 27 (by omega),zb b 28 (by omega),zb b 29 (by omega),zb b 30 (by omega),zb b 31 (by omega),b.c32,b.c33,b.vv,zge _ b (by omega) (by omega),yM,if_pos (by omega),qj,xa (by omega),qw,yX,if_neg c0,yX,if_neg c1,yX,if_neg c2,yX,if_neg c3,yX,if_pos c4,at0,xa (by rw [zak]; omega),zvy hj,xa ⟨rfl,by omega⟩,z5,cl,xa ⟨by simp only [yr]; omega,by simp only [yr]; omega,.inl (by omega)⟩,yi,ht,fl,zkQ (by simp),za5,b.vx]
      ·refine hx b hself.1 hself.2 rfl (fun β k=>?_)
       unfold xk zdG
       rw [xa b.len,zb b 0 (by omega),zb b 1 (by omega),zb b 2 (by omega),zb b 3 (by omega),zb b 4 (by omega),zb b 5 (by omega),zb b 6 (by omega),zb b 7 (by omega),zb b 8 (by omega),zb b 9 (by omega),zb b 10 (by omega),zb b 11 (by omega),zb b 12 (by omega),zb b 13 (by omega),zb b 14 (by omega),zb b 15 (by omega),zb b 16 (by omega),zb b 17 (by omega),zb b 18 (by omega),zb b 19 (by omega),zb b 20 (by omega),zb b 21 (by omega),zb b 22 (by omega),zb b 23 (by omega),zb b 24 (by omega),zb b 25 (by omega),zb b 26 (by omega),zb b 27 (by omega),zb b 28 (by omega),zb b 29 (by omega),zb b 30 (by omega),zb b 31 (by omega),b.c32,b.c33,b.vv,zge _ b (by omega) (by omega),yM,if_pos (by omega),qj,xa (by omega),qw,yX,if_neg c0,yX,if_neg c1,yX,if_neg c2,yX,if_neg c3,yX,if_neg c4,za5,za5,b.vv]
 ·refine ⟨b,hself.1,hself.2,rfl,fun β k=>?_⟩
  unfold xk zdG
  rw [xa b.len,zb b 0 (by omega),zb b 1 (by omega),zb b 2 (by omega),zb b 3 (by omega),zb b 4 (by omega),zb b 5 (by omega),zb b 6 (by omega),zb b 7 (by omega),zb b 8 (by omega),zb b 9 (by omega),zb b 10 (by omega),zb b 11 (by omega),zb b 12 (by omega),zb b 13 (by omega),zb b 14 (by omega),zb b 15 (by omega),zb b 16 (by omega),zb b 17 (by omega),zb b 18 (by omega),zb b 19 (by omega),zb b 20 (by omega),zb b 21 (by omega),zb b 22 (by omega),zb b 23 (by omega),zb b 24 (by omega),zb b 25 (by omega),zb b 26 (by omega),zb b 27 (by omega),zb b 28 (by omega),zb b 29 (by omega),zb b 30 (by omega),zb b 31 (by omega),b.c32,b.c33,b.vv,zge _ b (by omega) (by omega),yM,if_neg (by omega),za5,za5,b.vv]
end
section
set_option maxRecDepth 100000
variable {β:Type}
theorem zKj(L:Nat)(b:Bk)(hN:NnB b)(hH:b.H.length≤1000)(hT:b.T.length≤1000)(d:Dk):∃ (a:Adr) (d':Dk),d'.l=d.l∧0≤a.h∧∀ (β:Type) (k:List V→List (List V)→Int→Option β),xw β L b.v d.es d.a k=k a.v d'.es d'.a:=by
 have fin:∀ (p:Plc) (d:Dk) (β:Type) (k:List V→List (List V)→Int→Option β),chk ((XI (XK 3 (XL 1 p.v)))=3∧0+3≤3) (lt (xd [(Qc (0:Int)),(Qb (0:Int)),(Qc (0:Int))] 0 (XK 3 (XL 1 p.v))) fun r=>chk (0=0∧(XI r)=3∧3≠0) (k r d.es d.a))=k p.a.v d.es d.a:=by
  intro p d β k
  rw [p13,xa ⟨rfl,by omega⟩,z3,yi,xa ⟨rfl,rfl,by omega⟩]
 have fin2:∀ (a:Adr) (d:Dk) (β:Type) (k:List V→List (List V)→Int→Option β),chk ((XI a.v)=3∧0+3≤3) (lt (xd [(Qc (0:Int)),(Qb (0:Int)),(Qc (0:Int))] 0 a.v) fun r=>chk (0=0∧(XI r)=3∧3≠0) (k r d.es d.a))=k a.v d.es d.a:=by
  intro a d β k
  rw [xa ⟨rfl,by omega⟩,z3,yi,xa ⟨rfl,rfl,by omega⟩]
 have tried:∀ d:Dk,∃ (a:Adr) (d':Dk),d'.l=d.l∧0≤a.h∧∀ (β:Type) (k:List V→List (List V)→Int→Option β),
   (cLd 5 b.v 33 fun v10=>ifb (decide (((XI v10:Nat):Int)>(0:Int))) (yd β L (2:Int) d.es d.a (fun v11 v12 v13=>ifb ((v11:Int)==(0:Int)) (cLd 5 b.v 33 fun v14=>yd β L ((XI v10:Nat):Int) v12 v13 (fun v15 v16 v17=>idx v14 v15 fun c18=>chk ((XI (XK 3 (XL 1 c18)))=3∧0+3≤3) (lt (xd [(Qc (0:Int)),(Qb (0:Int)),(Qc (0:Int))] 0 (XK 3 (XL 1 c18))) fun r19=>chk (0=0∧(XI r19)=3∧3≠0) (k r19 v16 v17)))) (xo β L v12 v13 (fun v20 v21 v22=>chk ((XI v20)=3∧0+3≤3) (lt (xd [(Qc (0:Int)),(Qb (0:Int)),(Qc (0:Int))] 0 v20) fun r23=>chk (0=0∧(XI r23)=3∧3≠0) (k r23 v21 v22)))))) (xo β L d.es d.a (fun v24 v25 v26=>chk ((XI v24)=3∧0+3≤3) (lt (xd [(Qc (0:Int)),(Qb (0:Int)),(Qc (0:Int))] 0 v24) fun r27=>chk (0=0∧(XI r27)=3∧3≠0) (k r27 v25 v26)))))=k a.v d'.es d'.a:=by
  intro d
  by_cases hT0:0<b.T.length
  ·obtain ⟨r,d1,e1,g1,g2,q1⟩:=zfh L d 2 (by omega) (by omega)
   by_cases hr:r=0
   ·obtain ⟨i',d2,e2,i1,i2,q2⟩:=zfh L d1 (b.T.length:Int) (by omega) (by omega)
    obtain ⟨i,rfl⟩:∃ i:Nat,i'=i:=⟨i'.toNat,by omega⟩
    have hi:i<b.T.length:=by omega
    refine ⟨b.T[i].a,d2,by rw [e2,e1],hN.2 _ (W1 hi),fun β k=>?_⟩
    rw [yY b.g33,zK,yM,if_pos (by omega),q1,yX,if_pos hr,yY b.g33,q2,za4 (za1 hi),fin]
   ·obtain ⟨a,d2,e2,ha,q2⟩:=zBE L d1
    refine ⟨a,d2,by rw [e2,e1],ha,fun β k=>?_⟩
    rw [yY b.g33,zK,yM,if_pos (by omega),q1,yX,if_neg hr,q2,fin2]
  ·obtain ⟨a,d2,e2,ha,q2⟩:=zBE L d
   refine ⟨a,d2,e2,ha,fun β k=>?_⟩
   rw [yY b.g33,zK,yM,if_neg (by omega),q2,fin2]
 by_cases hH0:0<b.H.length
 ·obtain ⟨r,d1,e1,g1,g2,q1⟩:=zfh L d 2 (by omega) (by omega)
  by_cases hr:r=0
  ·obtain ⟨i',d2,e2,i1,i2,q2⟩:=zfh L d1 (b.H.length:Int) (by omega) (by omega)
   obtain ⟨i,rfl⟩:∃ i:Nat,i'=i:=⟨i'.toNat,by omega⟩
   have hi:i<b.H.length:=by omega
   refine ⟨b.H[i].a,d2,by rw [e2,e1],hN.1 _ (W1 hi),fun β k=>?_⟩
   unfold xw zmJ
   rw [yY b.g32,zK,yM,if_pos (by omega),q1,yX,if_pos hr,yY b.g32,q2,za4 (za1 hi),fin]
  ·obtain ⟨a,d2,e2,ha,q2⟩:=tried d1
   refine ⟨a,d2,by rw [e2,e1],ha,fun β k=>?_⟩
   unfold xw zmJ
   rw [yY b.g32,zK,yM,if_pos (by omega),q1,yX,if_neg hr]
   exact q2 β k
 ·obtain ⟨a,d2,e2,ha,q2⟩:=tried d
  refine ⟨a,d2,e2,ha,fun β k=>?_⟩
  unfold xw zmJ
  rw [yY b.g32,zK,yM,if_neg (by omega)]
  exact q2 β k
end
section
set_option maxRecDepth 100000
variable {β:Type}
def zGD:Adr:=⟨0,0,0⟩
def pk(l:List Plc)(d:Int):Adr:=match l[(XP (QF .u64 (XQ d 2)) (l.length:Int)).toNat]? with
 | some e=>e.a
 | none=>zGD
def zyb(b:Bk)(d:Int):Adr × Int:=
 if zdP b=true then
  (if XP d 2=1 then (if b.H.length=0 then (if b.T.length=0 then (zGD,390) else (pk b.T d,0)) else (pk b.H d,0))
   else (if b.T.length=0 then (if b.H.length=0 then (zGD,390) else (pk b.H d,0)) else (pk b.T d,0)))
 else (zGD,6)
theorem zIR{l:List Plc}(hl:l.length≤1000000)(h0:l.length≠0)(d:Int):∃ j:Nat,∃ h:j<l.length,XP (QF .u64 (XQ d 2)) (l.length:Int)=(j:Int)∧pk l d=l[j].a:=by
 have hw:=(zAO (XQ d 2)).1
 have h1:=Int.tmod_lt_of_pos (QF .u64 (XQ d 2)) (b:=(l.length:Int)) (by omega)
 have h2:=Int.tmod_nonneg (l.length:Int) hw
 refine ⟨(XP (QF .u64 (XQ d 2)) (l.length:Int)).toNat,by omega,by omega,?_⟩
 unfold pk
 rw [Wb (by omega)]
theorem zAX{l:List Plc}(hl:l.length≤1000000)(h0:l.length≠0)(d:Int)(k:List V→Int→Option β) :
  (lt (QF .u64 (XQ d (2:Int))) fun x6=>
   lt (QF .u64 ((l.length:Nat):Int)) fun x7=>
   chk (x7≠0) (
   lt (XP x6 x7) fun x8=>
   idx (yF l) x8 fun c9=>
   chk ((XI (XK 3 (XL 1 c9)))=3∧0+3≤3) (
   lt (xd [(Qc (0:Int)),(Qb (0:Int)),(Qc (0:Int))] 0 (XK 3 (XL 1 c9))) fun r10=>
   chk (0=0∧(XI r10)=3∧3≠0) (
   k r10 (0:Int)))))=k (pk l d).v 0:=by
 obtain ⟨j,hj,e1,e2⟩:=zIR hl h0 d
 rw [yi,yi,zEf (by omega) (by omega),xa (by omega),yi,e1,za4 (za1 hj),p13,xa ⟨rfl,by omega⟩,z3,yi,xa ⟨rfl,rfl,by omega⟩,e2]
theorem zAt{l:List Plc}(hl:l.length≤1000000)(h0:l.length≠0)(d:Int)(k:List V→Int→Option β) :
  (lt (QF .u64 (XQ d (2:Int))) fun x6=>
   lt (QF .u64 ((l.length:Nat):Int)) fun x7=>
   chk (x7≠0) (
   lt (XP x6 x7) fun x8=>
   lt (QF .i64 x8) fun x9=>
   idx (yF l) x9 fun c9=>
   chk ((XI (XK 3 (XL 1 c9)))=3∧0+3≤3) (
   lt (xd [(Qc (0:Int)),(Qb (0:Int)),(Qc (0:Int))] 0 (XK 3 (XL 1 c9))) fun r10=>
   chk (0=0∧(XI r10)=3∧3≠0) (
   k r10 (0:Int)))))=k (pk l d).v 0:=by
 obtain ⟨j,hj,e1,e2⟩:=zIR hl h0 d
 rw [yi,yi,zEf (by omega) (by omega),xa (by omega),yi,e1,yi,zX (by omega) (by omega),za4 (za1 hj),p13,xa ⟨rfl,by omega⟩,z3,yi,xa ⟨rfl,rfl,by omega⟩,e2]
theorem len0{n:Nat}(a b:Option β):ifb ((((n:Nat):Int):Int)==(0:Int)) a b=if n=0 then a else b:=by
 rw [yX]
 by_cases h:n=0
 ·rw [if_pos h,if_pos (by omega)]
 ·rw [if_neg h,if_neg (by omega)]
theorem zH4(L:Nat)(hL:200000<L)(b:Bk)(hH:b.H.length≤1000)(hT:b.T.length≤1000)(d:Int)(k:List V→Int→Option β):zl β (L+100) b.v d k=k (zyb b d).1.v (zyb b d).2:=by
 unfold zl zop
 rw [xa (by rw [b.len]; omega),b.take,b.dem,zA6 L b (by omega) (by omega) (by omega),zvl]
 unfold zyb
 cases hS:zdP b with
 | false=>rw [Yq,zef,if_neg (by simp),yi,xa (by decide)]; rfl
 | true=>
  rw [Xg,zaU,if_pos rfl,yY b.g33,yY b.g32,yi,yX,zK,zK]
  by_cases h1:XP d 2=1
  ·rw [if_pos h1,if_pos h1]
   by_cases hh:b.H.length=0
   ·rw [len0,if_pos hh,if_pos hh]
    by_cases ht:b.T.length=0
    ·rw [len0,if_pos ht,if_pos ht,yi,xa (by decide)]; rfl
    ·rw [len0,if_neg ht,if_neg ht,zAX (by omega) ht]
   ·rw [len0,if_neg hh,len0,if_neg hh,if_neg hh,zAX (by omega) hh]
  ·rw [if_neg h1,if_neg h1]
   by_cases ht:b.T.length=0
   ·rw [len0,if_pos ht,if_pos ht]
    by_cases hh:b.H.length=0
    ·rw [len0,if_pos hh,if_pos hh,yi,xa (by decide)]; rfl
    ·rw [len0,if_neg hh,if_neg hh,zAX (by omega) hh]
   ·rw [len0,if_neg ht,len0,if_neg ht,if_neg ht,zAX (by omega) ht]
theorem zIK(L:Nat)(hL:200000<L)(b:Bk)(hH:b.H.length≤1000)(hT:b.T.length≤1000)(d:Int)(k:List V→Int→Option β):xt β (L+100) b.v d k=k (zyb b d).1.v (zyb b d).2:=by
 unfold xt zsb
 rw [xa (by rw [b.len]; omega),b.take,b.dem,zuZ L b (by omega) (by omega) (by omega)]
 unfold zyb
 cases hS:zdP b with
 | false=>rw [Yq,zef,if_neg (by simp),yi,xa (by decide)]; rfl
 | true=>
  rw [Xg,zaU,if_pos rfl,yY b.g33,yY b.g32,yi,yX,zK,zK]
  by_cases h1:XP d 2=1
  ·rw [if_pos h1,if_pos h1]
   by_cases hh:b.H.length=0
   ·rw [len0,if_pos hh,if_pos hh]
    by_cases ht:b.T.length=0
    ·rw [len0,if_pos ht,if_pos ht,yi,xa (by decide)]; rfl
    ·rw [len0,if_neg ht,if_neg ht,zAt (by omega) ht]
   ·rw [len0,if_neg hh,len0,if_neg hh,if_neg hh,zAt (by omega) hh]
  ·rw [if_neg h1,if_neg h1]
   by_cases ht:b.T.length=0
   ·rw [len0,if_pos ht,if_pos ht]
    by_cases hh:b.H.length=0
    ·rw [len0,if_pos hh,if_pos hh,yi,xa (by decide)]; rfl
    ·rw [len0,if_neg hh,if_neg hh,zAt (by omega) hh]
   ·rw [len0,if_neg ht,len0,if_neg ht,if_neg ht,zAt (by omega) ht]
def Bk.ok(b:Bk):Prop:=b.H.length≤600∧b.T.length≤600
theorem zFa(z:List V)(hz:z.length=102)(b c d:Bk):ye 34 3 (xd (xd (xd z 0 b.v) 34 c.v) 68 d.v)=[b.v,c.v,d.v]:=by
 have hb:=b.len
 have hc:=c.len
 have hd:=d.len
 have e1:xd z 0 b.v=b.v++z.drop 34:=by
  unfold xd; rw [List.take_zero,XD,hb]
 have e2:xd (b.v++z.drop 34) 34 c.v=b.v++c.v++z.drop 68:=by
  unfold xd
  rw [Yh hb,hc,Yr,WI (by omega),XD,hb,List.drop_drop]
 have e3:xd (b.v++c.v++z.drop 68) 68 d.v=b.v++c.v++d.v:=by
  unfold xd
  rw [Yh (by simp [hb,hc]),hd,WI (by simp [hb,hc,hz]),Ya]
 rw [e1,e2,e3]
 show [XK 34 (b.v++c.v++d.v),XK 34 (XL 34 (b.v++c.v++d.v)),XK 34 (XL 34 (XL 34 (b.v++c.v++d.v)))]=_
 rw [Wu,Yh hb,List.drop_left' hb,Yh hc,List.drop_left' hc,d.take]
theorem zHA(b:Bk):xd (xd (We 32 (Qa (0:Int))++[(V.sl 5 ([]:List (List V))),(V.sl 5 ([]:List (List V)))]) 0 (row .u8 b.salt)) 32 [(V.sl 5 (yF b.H))]=(⟨b.salt,b.H,[],b.hs⟩:Bk).v:=by
 rw [zCw _ _ _ (by simp [zbo,b.hs])]
 unfold xd
 rw [Yh (by rw [zbo,b.hs]),Yr,WI (by rw [zbo,b.hs]; simp),XD,zbo,b.hs]
 show row .u8 b.salt++[V.sl 5 (yF b.H)]++[V.sl 5 []]=_
 rw [Wu]; rfl
theorem eqA(a:Adr)(k:Bool→Option β):eqC 3 a.v a.v k=k true:=by
 unfold eqC Adr.v
 rw [xa ⟨rfl,rfl⟩]
 simp [zfu]
theorem zGT(L:Nat)(hL:200000<L)(draw:Int)(bs:List Bk)(hbs:∀ b∈bs,b.ok)(hl:bs.length≤100)(a:Adr)(es:List (List V))(pos:Int)(kr:Bool→List (List V)→Int→Option Bool)(kx:List (List V)→Int→Option Bool):∀ (m i:Nat),i≤bs.length→bs.length-i<m →
  zbS zu yA zy xw xk yk xf xl zx zl xt yt (L+100) kr kx m draw (bs.map Bk.v) (bs.length:Int) (i:Int) a.v es pos=kx es pos:=by
 intro m
 induction m with
 | zero=>intro i h1 h2; omega
 | succ m ih=>
  intro i h1 h2
  unfold zbS zes
  by_cases h:i<bs.length
  ·have hg:(bs.map Bk.v)[i]?=some bs[i].v:=by simp [h]
   have hok:=hbs _ (W1 h)
   generalize bs[i]=b at hg hok
   have hH:b.H.length≤1000:=by have:=hok.1; omega
   have hT:b.T.length≤1000:=by have:=hok.2; omega
   rw [zaE (by omega),za4 hg,b.take,xa ⟨b.len,by omega⟩,z34 _ (by simp),yi,xa (by rw [b.len]; omega),xa (by show 0+3≤3; omega),b.take,b.dem,zbi]
   have ap:=fun (k:List V→Int→Option Bool)=>zH4 L hL b hH hT draw k
   have rp:=fun (k:List V→Int→Option Bool)=>zIK L hL b hH hT draw k
   by_cases hin:inB b a
   ·obtain ⟨j,hj,e⟩:=zpS hin.2
    have hS:=(ze7 b).1 hin.1
    have hg1:=(zwX hS hj).lenH
    have hg2:=(zwX hS hj).lenT
    have hrl:(yQ b.H j).length≤b.H.length:=(zcX _ _).length_le
    have g1:=fun (k:List V→Int→Option Bool)=>zIm L hL b hS a j hj e k
    have g2:=fun (k:List V→Int→Option Bool)=>zFo L hL b hS a j hj e k
    have b1:=fun (k:List V→Int→Option Bool)=>zI5 L hL b hS a j hj e k
    have b2:=fun (k:List V→Int→Option Bool)=>zJB L hL b hS a j hj e k
    obtain ⟨c,hc⟩:∃ c:Bk,c=⟨b.salt,yQ b.H j,b.T,b.hs⟩:=⟨_,rfl⟩
    have hcH:c.H.length≤1000:=by rw [hc]; show (yQ b.H j).length≤1000; omega
    have hcT:c.T.length≤1000:=by rw [hc]; exact hT
    rw [← hc] at b1 b2
    generalize zqw b j b.H[j]=g at g1 g2 hg1 hg2
    rw [g1,xa ⟨g.len,by omega⟩,z34 _ (by simp),yi,xa (by rw [b.len]; omega),xa (by show 0+3≤3; omega),g2,xa ⟨g.len,by omega⟩,z34 _ (by simp),yi,xa (by rw [b.len]; omega),xa (by show 0+3≤3; omega),b1,xa ⟨c.len,by omega⟩,z34 _ (by simp),yi,xa (by rw [b.len]; omega),xa (by show 0+3≤3; omega),b2,xa ⟨c.len,by omega⟩,z34 _ (by simp),yi,xa (by rw [b.len]; omega),ap,xa ⟨rfl,by omega⟩,z3,yi,xa (by rw [b.len]; omega),rp,xa ⟨rfl,by omega⟩,z3,yi,zeP,if_pos rfl,zeP,if_pos rfl,zeP,if_pos rfl,xa (by show 0+3≤3; omega),xa (by show 0+3≤3; omega),zbi,eqA,Xg,zaU,xa (by rw [g.len]; omega),xa (by rw [g.len]; omega),g.take,g.dem,ztB _ g (by omega) (by omega) (by omega) (by omega),Xg,zaU,xa (by rw [c.len]; omega),xa (by rw [c.len]; omega),c.take,c.dem,ztB _ c (by omega) (by omega) (by omega) (by omega),Xg,zaU,yi,y4 (by omega)]
    exact ih (i+1) (by omega) (by omega)
   ·have g1:=fun (k:List V→Int→Option Bool)=>zHV L hL b hH hT a hin k
    have g2:=fun (k:List V→Int→Option Bool)=>zHo L hL b hH hT a hin k
    have b1:=fun (k:List V→Int→Option Bool)=>zH5 L hL b hH hT a hin k
    have b2:=fun (k:List V→Int→Option Bool)=>zH7 L hL b hH hT a hin k
    have h0H:bk0.H.length=0:=rfl
    have h0T:bk0.T.length=0:=rfl
    rw [g1,xa ⟨bk0.len,by omega⟩,z34 _ (by simp),yi,xa (by rw [b.len]; omega),xa (by show 0+3≤3; omega),g2,xa ⟨bk0.len,by omega⟩,z34 _ (by simp),yi,xa (by rw [b.len]; omega),xa (by show 0+3≤3; omega),b1,xa ⟨bk0.len,by omega⟩,z34 _ (by simp),yi,xa (by rw [b.len]; omega),xa (by show 0+3≤3; omega),b2,xa ⟨bk0.len,by omega⟩,z34 _ (by simp),yi,xa (by rw [b.len]; omega),ap,xa ⟨rfl,by omega⟩,z3,yi,xa (by rw [b.len]; omega),rp,xa ⟨rfl,by omega⟩,z3,yi,zeP,if_pos rfl,zeP,if_pos rfl,zeP,if_pos rfl,xa (by show 0+3≤3; omega),xa (by show 0+3≤3; omega),zbi,eqA,Xg,zaU,xa (by rw [bk0.len]; omega),xa (by rw [bk0.len]; omega),bk0.take,bk0.dem,ztB _ bk0 (by omega) (by omega) (by omega) (by omega),Xg,zaU,xa (by rw [bk0.len]; omega),xa (by rw [bk0.len]; omega),ztB _ bk0 (by omega) (by omega) (by omega) (by omega),Xg,zaU,yi,y4 (by omega)]
    exact ih (i+1) (by omega) (by omega)
  ·rw [zaO (by omega)]
theorem zwt(a0:List (List V))(a1 a2 a3:Int)(hl0:a0.length≤maxLen)(wf0:∀ e∈a0,HasRow [.int .i64] e)(wf1:(Lit.int .i64 a1).wf=true)(wf2:(Lit.int .i64 a2).wf=true)(wf3:(Lit.int .u64 a3).wf=true) :
  ∃ L,∀ k:Bool→Option Bool,zbp Bool L a0 a1 a2 a3 k=k true:=by
 obtain ⟨l,rfl,_⟩:=zFf wf0
 rw [zfy] at hl0
 obtain ⟨L,hL⟩:∃ L:Nat,6000000≤L:=⟨6000000,Wq _⟩
 refine ⟨L+100,fun k=>?_⟩
 obtain ⟨b,d1,e1,hS,hN,q1⟩:=zJV L (by omega) ⟨l,0,by omega,by omega,by unfold maxLen at hl0; omega⟩
 obtain ⟨a,d2,e2,ha,q2⟩:=zKj (L+100) b hN (by have:=hS.lenH; omega) (by have:=hS.lenT; omega) d1
 obtain ⟨c,c1,c2,_,qc⟩:=zIJ (L+100) b hS.lenH hS.lenT a1 a2
 have hb1:=hS.lenH
 have hb2:=hS.lenT
 have hz1:(We 32 (Qa (0:Int))++[(V.sl 5 ([]:List (List V))),(V.sl 5 ([]:List (List V)))]).length=34:=by simp
 have hz:(We 32 (Qa (0:Int))++[(V.sl 5 ([]:List (List V))),(V.sl 5 ([]:List (List V)))]++We 32 (Qa (0:Int))++[(V.sl 5 ([]:List (List V))),(V.sl 5 ([]:List (List V)))]++We 32 (Qa (0:Int))++[(V.sl 5 ([]:List (List V))),(V.sl 5 ([]:List (List V)))]).length=102:=by simp
 obtain ⟨g,hg⟩:∃ g:Bk,g=⟨b.salt,b.H,[],b.hs⟩:=⟨_,rfl⟩
 unfold zbp zfn ziA
 rw [zKq L (by omega),Xg,zaU,zKa]
 have h1:=q1 Bool
 simp only [Dk.es] at h1 q2
 rw [h1,xa ⟨b.len,by omega⟩,z34 _ (by simp),yi,xa (by rw [b.len]; omega),b.take,b.dem,q2,xa ⟨rfl,by omega⟩,z3,yi,xa (by rw [b.len]; omega),xa (by rw [b.len]; omega),qc,xa (by rw [b.len]; omega),yY b.g32,b.t32,xa ⟨by rw [zbo,b.hs],by omega⟩]
 rw [xa ⟨rfl,by rw [zqF (by rw [zbo,b.hs,hz1]; omega),hz1]; omega⟩,xa ⟨b.len,by omega⟩,xa ⟨c.len,by rw [zqF (by rw [b.len,hz]; omega),hz]; omega⟩,zHA,← hg]
 rw [xa ⟨g.len,by rw [zqF (by rw [zqF (by rw [b.len,hz]; omega),hz,c.len]; omega),zqF (by rw [b.len,hz]; omega),hz]; omega⟩,zFa _ hz]
 refine (zGT L (by omega) a3 [b,c,g] (by
  intro x hx
  simp only [List.mem_cons,List.not_mem_nil,or_false] at hx
  rcases hx with rfl | rfl | rfl
  ·exact ⟨by omega,by omega⟩
  ·exact ⟨by omega,by omega⟩
  ·rw [hg]; exact ⟨by show b.H.length≤600; omega,by show 0≤600; omega⟩) (by simp) a _ _ _ _ (L+100) 0 (by omega) (by simp)).trans ?_
 rfl
end
section
namespace addrbookMovesL
open Go.ChangeShapes Go.WideShapes Go.ChangeAt Go.RowKit
theorem own:ownKnob Try.prog.godebug=none:=by kernel_rfl
theorem zyd:laidOutB Try.prog=true:=by kernel_rfl
set_option maxRecDepth 100000 in
theorem zJ1(os:Os)(started:os.Started)(H:Type)(enc:TypeId × Value→H) :
  ReturnsInHanded {} Try.checked os 7 .any (Rows.addrbookMovesSpec.pre6 enc Try.prog Try.f7 Rows.addrbookMovesRow.domain false) (Rows.addrbookMovesSpec.post enc Try.prog Try.f7 false true false false):=by
 refine returnsInHanded_of_change (C:=Try.checked) own started (by kernel_rfl) Try.func7
  (ChangeSpec.witness6 (enc:=enc) (C:=Try.checked) false ⟨#[],#[.slice none 0 0,.int .i64 0,.int .i64 0,.int .u64 0],[]⟩ 8 (by kernel_rfl) (by kernel_rfl) (by kernel_rfl) (by kernel_rfl)) ?_
 intro W base args ds gs before hval0 hW hcnd _
 have hval:∀ (j:Nat) t v,Try.f7.params[j]?=some t→args[j]?=some v→Value.okWide Try.prog W .any base t v:=hval0
 have hW':=hW
 obtain ⟨p,q,hA0,hV,rfl,hfz,hnd⟩:=hW
 have hA:DataW.TrodAll enc Try.prog W 0 (fun _=>true) true Try.f7.params.toList args.toList ds p:=hA0
 rw [Try.params7] at hA hval
 obtain ⟨v0,vs0,d0,ds0,p0,q0,hargs,rfl,rfl,h0,r0⟩:=trodAll_cons hA
 obtain ⟨v1,vs1,d1,ds1,p1,q1,rfl,rfl,rfl,h1,r1⟩:=trodAll_cons r0
 obtain ⟨v2,vs2,d2,ds2,p2,q2,rfl,rfl,rfl,h2,r2⟩:=trodAll_cons r1
 obtain ⟨v3,vs3,d3,ds3,p3,q3,rfl,rfl,rfl,h3,r3⟩:=trodAll_cons r2
 obtain ⟨rfl,rfl,rfl⟩:=trodAll_nil r3
 obtain rfl:args=#[v0,v1,v2,v3]:=by cases args; simp_all
 obtain ⟨rfl,rfl⟩:=trodVars_none hV
 have k0:=h0
 have lt0:∀ x∈p0,x.block<W.heap.size:=by obtain ⟨m,hm⟩:=k0; exact DataW.trod_lt m _ _ _ hm
 have k1:=h1
 have lt1:∀ x∈p1,x.block<W.heap.size:=by obtain ⟨m,hm⟩:=k1; exact DataW.trod_lt m _ _ _ hm
 have k2:=h2
 have lt2:∀ x∈p2,x.block<W.heap.size:=by obtain ⟨m,hm⟩:=k2; exact DataW.trod_lt m _ _ _ hm
 have k3:=h3
 have lt3:∀ x∈p3,x.block<W.heap.size:=by obtain ⟨m,hm⟩:=k3; exact DataW.trod_lt m _ _ _ hm
 obtain ⟨A0,len0,cap0,rfl⟩:=okWide_slice Try.underlying22 (hval 0 22 v0 rfl rfl)
 obtain ⟨x0,hx0,rp0⟩:=zJd (r:=.any) (b0:=base) (ren:=zN fg gls) (d:=20) (ct:=.sl ([.int .i64])) rfl h0 (by kernel_rfl)
 obtain ⟨a0,rfl,hl0,wf0⟩:=hx0.sl_inv
 obtain ⟨a1,rfl,rfl,rfl,wf1⟩:=open_int Try.underlying3 (hval 1 3 v1 rfl rfl) h1
 obtain ⟨a2,rfl,rfl,rfl,wf2⟩:=open_int Try.underlying3 (hval 2 3 v2 rfl rfl) h2
 obtain ⟨a3,rfl,rfl,rfl,wf3⟩:=open_int Try.underlying62 (hval 3 62 v3 rfl rfl) h3
 clear hA0 hval0
 obtain ⟨L,hL⟩:=zwt a0 a1 a2 a3 hl0 wf0 wf1 wf2 wf3
 have hd:zfg zbp L Bool [(V.sl 1 a0),(Qe a1),(Qe a2),(Qd a3)] [] zyk=some true:=by
  show (aL 1 (V.sl 1 a0) fun x0=>aI .i64 (Qe a1) fun x1=>aI .i64 (Qe a2) fun x2=>aI .u64 (Qd a3) fun x3=>zbp Bool L x0 x1 x2 x3 (fun p=>zyk (V.sc (.bool p)) []))=some true
  rw [zKn,zGs,zGs,zGs]
  exact (hL (fun p=>zyk (V.sc (.bool p)) [])).trans rfl
 obtain ⟨v,b,hev,hk⟩:=zta L 100 (by decide) Bool [(V.sl 1 a0),(Qe a1),(Qe a2),(Qd a3)] [] zyk true hd
 have hv:=zHF hk
 subst hv
 refine (zGw (us:=[.slice A0 len0 cap0,.int .i64 a1,.int .i64 a2,.int .u64 a3]) (w:=W) (fun _ _ h=>by cases h) (zKs L 100) (f:=7) (by kernel_rfl) rfl (fun i x u hx hu=>?_) hev).mono fun e W' ⟨he,bel0⟩=>?_
 ·match i,hx,hu with
  | 0,hx,hu=>cases hx; cases hu; exact rp0
  | 1,hx,hu=>cases hx; cases hu; exact .sc _ rfl
  | 2,hx,hu=>cases hx; cases hu; exact .sc _ rfl
  | 3,hx,hu=>cases hx; cases hu; exact .sc _ rfl
  | n+4,hx,hu=>simp at hx
 ·have bel:=Kept.below bel0
  subst he
  exact ⟨_,rfl,_,_,_,[],_,[],hW',trodAll_mk1 (shut_bool Try.underlying4 _),(trodAll_cons_mk (Below.trod zyd (by kernel_rfl) (of_decide_eq_true (by kernel_rfl)) k0 bel lt0) (trodAll_cons_mk (Below.trod zyd (by kernel_rfl) (of_decide_eq_true (by kernel_rfl)) k1 bel lt1) (trodAll_cons_mk (Below.trod zyd (by kernel_rfl) (of_decide_eq_true (by kernel_rfl)) k2 bel lt2) (trodAll_cons_mk (Below.trod zyd (by kernel_rfl) (of_decide_eq_true (by kernel_rfl)) k3 bel lt3) trodAll_mk0)))),rfl,bel.frame _,fun h=>by cases h⟩
theorem over:Rows.addrbookMovesRow.holds Try.pinned (OpenSpec.ofChange Rows.addrbookMovesSpec):=
 OpenClaim.holds_of_wide 7 Try.f7 rfl rfl rfl rfl rfl rfl rfl ⟨rfl,rfl,rfl,rfl,rfl⟩ rfl rfl rfl rfl rfl (by kernel_rfl) Try.func7 (by kernel_rfl)
  (of_decide_eq_true (by kernel_rfl)) (by unfold Func.isWrapper; first | (rw [if_pos (by decide +kernel)]; kernel_rfl) | (rw [if_neg (by decide +kernel)]; exact ⟨rfl,rfl⟩))
  (fun os started H enc _=>zJ1 os started H enc)
end addrbookMovesL
theorem addrbookMoves_holds:Rows.AddrbookMovesSaid:=addrbookMovesL.over
end
end Go.Proofs.Ytbimgceighecgaa
