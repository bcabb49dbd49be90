/- AddrbookFloods: for every input the call returns true, and each argument reads afterwards as it read before. No condition. -/
import Derived.Test.YtbimgceighecgaaMAddrbookFloods13
namespace Go.Proofs.Ytbimgceighecgaa
set_option linter.unusedVariables false
set_option linter.unusedSimpArgs false
open IntKind renaming wrap->QF
open List renaming drop_eq_getElem_cons->WP,drop_of_length_le->WI,replicate->We,takeWhile_cons->X9,drop_append_of_le_length->Xv,length_cons->Ya,nil_append->XB,mem_append->QC,take_append_of_le_length->Xw,take_of_length_le->Xu,drop->XJ,getElem?_eq_getElem->Wb,drop_zero->XU,getElem_mem->W1,filter_append->XV,append_nil->Yb,take_append_drop->Yc,pairwise_map->Yd,mem_cons->Q7,length_drop->XD,length_take->Ww,take->XI,flatten->XK,takeWhile_append_of_pos->Ye,filter_sublist->Yf,pairwise_cons->Xs,length_append->Wm,mem_take_iff_getElem->XR,mem_drop_iff_getElem->Yh,getElem?_append_left->Wv,drop_append->Yi,any_eq_true->Yj,drop_left'->Yk,filter_eq_nil_iff->X4,takeWhile_sublist->Yl,mem_filter->QY,head?_drop->Ym,length_singleton->Yn,pairwise_append->Xr,mem_singleton->Yo
open Int renaming toNat_natCast->X8,toNat->XH,tmod->XM
open Nat renaming le_refl->Wq,zero_add->WB,le_trans->QD
open Bool renaming not_true->Xg,not_false->Yg
open Prod.mk renaming injEq->QL
section
def xC(l:List Plc)(v:Int):Nat:=(l.takeWhile (fun x=>decide (x.b<v))).length
def toN(l:List Plc)(v:Int):Nat:=xC l v+((l.drop (xC l v)).takeWhile (fun x=>x.b==v)).length
def zgh(l:List Plc)(p:Plc):List Plc:=l.take (toN l p.b)++[p]++l.drop (toN l p.b)
def za3(l:List Plc)(i:Nat):List Plc:=l.take i++l.drop (i+1)
def zGM(t:Int)(e:Plc):Plc:=⟨e.b,⟨e.a.h,e.a.p,zz5 e.a.t t⟩,e.s⟩
def zrq(l:List Plc)(i:Nat)(t:Int):List Plc:=l.modify i (zGM t)
def zs9(l:List Plc)(i:Nat):Int:=match l[i]? with | some e=>e.a.t | none=>0
def zda(l:List Plc):Nat→Nat→Nat→Nat
 | 0,_,m=>m
 | n+1,i,m=>zda l n (i+1) (if zs9 l i<zs9 l m then i else m)
def zdz(b:Bk)(a:Adr)(src:Int):Bk × Bool:=
 if zcK (fun x=>zB x.a a) b.T 0≥0 then (⟨b.salt,b.H,zrq b.T (zcK (fun x=>zB x.a a) b.T 0).toNat a.t,b.hs⟩,false)
 else if zcK (fun x=>zB x.a a) b.H 0≥0 then (⟨b.salt,zrq b.H (zcK (fun x=>zB x.a a) b.H 0).toNat a.t,b.T,b.hs⟩,false)
 else if toN b.H (hbk b.salt a src)-xC b.H (hbk b.salt a src)≥8 then
  (if zs9 b.H (zda b.H (toN b.H (hbk b.salt a src)-xC b.H (hbk b.salt a src)) (xC b.H (hbk b.salt a src)) (xC b.H (hbk b.salt a src)))≥a.t then (b,false)
   else (⟨b.salt,zgh (za3 b.H (zda b.H (toN b.H (hbk b.salt a src)-xC b.H (hbk b.salt a src)) (xC b.H (hbk b.salt a src)) (xC b.H (hbk b.salt a src)))) ⟨hbk b.salt a src,a,src⟩,b.T,b.hs⟩,true))
 else (⟨b.salt,zgh b.H ⟨hbk b.salt a src,a,src⟩,b.T,b.hs⟩,true)
def zfM(b:Bk)(e:Plc):Plc:=⟨tbk b.salt e.a,e.a,e.s⟩
def zui(b:Bk)(i:Nat)(e:Plc):Bk:=
 if toN b.T (tbk b.salt e.a)-xC b.T (tbk b.salt e.a)≥8 then
  (match b.T[xC b.T (tbk b.salt e.a)]? with
   | some o=>(zdz ⟨b.salt,za3 b.H i,zgh (za3 b.T (xC b.T (tbk b.salt e.a))) (zfM b e),b.hs⟩ o.a (grp o.a)).1
   | none=>b)
 else ⟨b.salt,za3 b.H i,zgh b.T (zfM b e),b.hs⟩
theorem Srt.split3{l:List Plc}(v:Int)(h:Srt l):∃ A B C:List Plc,l=A++(B++C)∧(∀ x∈A,x.b<v)∧(∀ x∈B,x.b=v)∧(∀ x∈C,v<x.b):=by
 induction l with
 | nil=>exact ⟨[],[],[],rfl,by simp,by simp,by simp⟩
 | cons x l ih=>
  have h':=Xs.1 h
  obtain ⟨A,B,C,rfl,hA,hB,hC⟩:=ih h'.2
  by_cases hx:x.b<v
  ·exact ⟨x::A,B,C,rfl,by simpa using ⟨hx,hA⟩,hB,hC⟩
  ·have eA:A=[]:=by
    cases A with
    | nil=>rfl
    | cons a A=>
     have h1:=hA a (by simp)
     have h2:=h'.1 a (by simp)
     omega
   subst eA
   by_cases hxv:x.b=v
   ·exact ⟨[],x::B,C,rfl,by simp,by simpa using ⟨hxv,hB⟩,hC⟩
   ·have eB:B=[]:=by
     cases B with
     | nil=>rfl
     | cons a B=>
      have h1:=hB a (by simp)
      have h2:=h'.1 a (by simp)
      omega
    subst eB
    exact ⟨[],[],x::C,rfl,by simp,by simp,by simpa using ⟨by omega,hC⟩⟩
theorem zqs{A B C:List Plc}{v:Int}(hA:∀ x∈A,x.b<v)(hB:∀ x∈B,x.b=v)(hC:∀ x∈C,v<x.b):xC (A++(B++C)) v=A.length:=by
 unfold xC
 rw [Ye (fun x hx=>decide_eq_true (hA x hx))]
 have:(B++C).takeWhile (fun x=>decide (x.b<v))=[]:=by
  cases B with
  | cons b B=>rw [List.cons_append,X9,if_neg (by have:=hB b (by simp); simp; omega)]
  | nil=>cases C with
   | nil=>rfl
   | cons c C=>rw [XB,X9,if_neg (by have:=hC c (by simp); simp; omega)]
 rw [this,Yb]
theorem zoq{A B C:List Plc}{v:Int}(hA:∀ x∈A,x.b<v)(hB:∀ x∈B,x.b=v)(hC:∀ x∈C,v<x.b):toN (A++(B++C)) v=A.length+B.length:=by
 unfold toN
 rw [zqs hA hB hC,Yk rfl,Ye (fun x hx=>beq_iff_eq.2 (hB x hx))]
 have:C.takeWhile (fun x=>x.b==v)=[]:=by
  cases C with
  | nil=>rfl
  | cons c C=>rw [X9,if_neg (by have:=hC c (by simp); simp; omega)]
 rw [this,Yb]
theorem zwm{A B C:List Plc}{p:Plc}(hA:∀ x∈A,x.b<p.b)(hB:∀ x∈B,x.b=p.b)(hC:∀ x∈C,p.b<x.b):zgh (A++(B++C)) p=A++(B++(p::C)):=by
 unfold zgh
 rw [zoq hA hB hC,← List.append_assoc,List.take_left' (by simp),Yk (by simp)]
 simp
theorem zkN{l' l:List Plc}(h:l'.Sublist l)(v:Int):zav v l'≤zav v l:=(h.filter _).length_le
theorem TOk.sub{bk:Plc→Int}{N:List Adr}{l l':List Plc}(h:TOk bk N l)(hs:l'.Sublist l):TOk bk N l':=
 ⟨fun e he=>h.b e (hs.subset he),h.s.sublist hs,fun v=>QD (zkN hs v) (h.c v),h.n.sublist hs,fun e he=>h.f e (hs.subset he)⟩
theorem zdI(l:List Plc)(i:Nat):(za3 l i).Sublist l:=by
 unfold za3
 rw [← List.eraseIdx_eq_take_drop_succ]
 exact List.eraseIdx_sublist l i
theorem zoT{l:List Plc}{p x:Plc}(h:x∈zgh l p):x=p∨x∈l:=by
 unfold zgh at h
 simp only [QC,Yo] at h
 rcases h with (h | h) | h
 ·exact .inr (List.mem_of_mem_take h)
 ·exact .inl h
 ·exact .inr (List.mem_of_mem_drop h)
theorem TOk.ins{bk:Plc→Int}{N:List Adr}{l:List Plc}(h:TOk bk N l){p:Plc}(hb:p.b=bk p)(hc:zav p.b l≤7)(hn:∀ x∈l,zB x.a p.a=false)(hf:∀ a∈N,zB a p.a=false):TOk bk N (zgh l p):=by
 obtain ⟨A,B,C,rfl,hA,hB,hC⟩:=h.s.split3 p.b
 have hs:=h.s
 have hnn:=h.n
 refine ⟨fun e he=>?_,?_,fun v=>?_,?_,fun e he=>?_⟩
 ·rcases zoT he with rfl | he
  ·exact hb
  ·exact h.b e he
 ·rw [zwm hA hB hC]
  unfold Srt at hs ⊢
  simp only [Xr,Xs,QC,Q7] at hs ⊢
  obtain ⟨sA,⟨sB,sC,sBC⟩,sABC⟩:=hs
  refine ⟨sA,⟨sB,⟨fun c hc=>Int.le_of_lt (hC c hc),sC⟩,?_⟩,?_⟩
  ·rintro x hx y (rfl | hy)
   ·rw [hB x hx]; exact Int.le_refl _
   ·exact sBC x hx y hy
  ·rintro x hx y (hy | rfl | hy)
   ·exact sABC x hx y (.inl hy)
   ·exact Int.le_of_lt (hA x hx)
   ·exact sABC x hx y (.inr hy)
 ·have hv:=h.c v
  rw [zwm hA hB hC]
  have e:zav v (A++(B++p::C))=zav v (A++(B++C))+if p.b=v then 1 else 0:=by
   unfold zav
   simp only [XV,Wm,List.filter_cons,beq_iff_eq]
   split <;> simp <;> omega
  rw [e]
  split
  ·rename_i hp; rw [← hp]; omega
  ·omega
 ·rw [zwm hA hB hC]
  simp only [QC] at hn
  simp only [Xr,Xs,QC,Q7] at hnn ⊢
  obtain ⟨sA,⟨sB,sC,sBC⟩,sABC⟩:=hnn
  refine ⟨sA,⟨sB,⟨fun c hc=>by rw [zh4]; exact hn c (.inr (.inr hc)),sC⟩,?_⟩,?_⟩
  ·rintro x hx y (rfl | hy)
   ·exact hn x (.inr (.inl hx))
   ·exact sBC x hx y hy
  ·rintro x hx y (hy | rfl | hy)
   ·exact sABC x hx y (.inl hy)
   ·exact hn x (.inl hx)
   ·exact sABC x hx y (.inr hy)
 ·rcases zoT he with rfl | he
  ·exact hf
  ·exact h.f e he
theorem zCl{bk:Plc→Int}{N:List Adr}{l:List Plc}(h:TOk bk N l)(v:Int):toN l v-xC l v=zav v l:=by
 obtain ⟨A,B,C,rfl,hA,hB,hC⟩:=h.s.split3 v
 rw [zoq hA hB hC,zqs hA hB hC]
 unfold zav
 rw [XV,XV,X4.2 (fun x hx=>by have:=hA x hx; simp; omega),List.filter_eq_self.2 (fun x hx=>by simp [hB x hx]),X4.2 (fun x hx=>by have:=hC x hx; simp; omega)]
 simp
theorem zm8(l:List Plc)(v:Int):xC l v≤toN l v∧toN l v≤l.length:=by
 unfold toN
 have h1:xC l v≤l.length:=by unfold xC; exact (Yl _).length_le
 have h2:=(Yl (fun x:Plc=>x.b==v) (l:=l.drop (xC l v))).length_le
 rw [XD] at h2
 omega
theorem zww{bk:Plc→Int}{N:List Adr}{l:List Plc}(h:TOk bk N l){v:Int}{i:Nat}(h1:xC l v≤i)(h2:i<toN l v)(hi:i<l.length):l[i].b=v:=by
 obtain ⟨A,B,C,rfl,hA,hB,hC⟩:=h.s.split3 v
 rw [zoq hA hB hC] at h2
 rw [zqs hA hB hC] at h1
 rw [List.getElem_append_right h1,List.getElem_append_left (by omega)]
 exact hB _ (W1 _)
theorem zDm{bk:Plc→Int}{N:List Adr}{l:List Plc}(h:TOk bk N l){i:Nat}(hi:i<l.length):zav l[i].b (za3 l i)≤7:=by
 have key:∀ v,l[i].b=v→zav v l=zav v (za3 l i)+1:=by
  intro v hv
  have e:l=l.take i++(l[i]::l.drop (i+1)):=by rw [← WP hi,Yc]
  refine (congrArg (zav v) e).trans ?_
  unfold zav za3
  rw [XV,XV,List.filter_cons,if_pos (by simp [hv])]
  simp
  omega
 have hc:=h.c l[i].b
 have:=key _ rfl
 omega
def zbT(e:Plc):Int × Int × Int × Int:=(e.b,e.a.h,e.a.p,e.s)
theorem zr6{α β:Type}(f:α→α)(g:α→β)(h:∀ x,g (f x)=g x):∀ (l:List α) (i:Nat),(l.modify i f).map g=l.map g
 | [],i=>by cases i <;> rfl
 | x::l,0=>by simp [List.modify,h]
 | x::l,i+1=>by simpa using zr6 f g h l i
theorem zrz(l:List Plc)(i:Nat)(t:Int):(zrq l i t).map zbT=l.map zbT:=zr6 (zGM t) zbT (fun _=>rfl) l i
theorem zAI{x y x' y':Plc}(hx:zbT x=zbT x')(hy:zbT y=zbT y'):zB x.a y.a=zB x'.a y'.a:=by
 simp only [zbT,QL] at hx hy
 simp only [zB,hx.2.1,hx.2.2.1,hy.2.1,hy.2.2.1]
theorem zwB{l l':List Plc}(hk:l'.map zbT=l.map zbT){x:Plc}(hx:x∈l'):∃ y∈l,zbT y=zbT x:=by
 have:=List.mem_map_of_mem (f:=zbT) hx
 rw [hk] at this
 obtain ⟨y,h1,h2⟩:=List.mem_map.1 this
 exact ⟨y,h1,h2⟩
theorem TOk.key{bk:Plc→Int}(hbk:∀ x y,zbT x=zbT y→bk x=bk y){l l':List Plc}(h:TOk bk [] l)(hk:l'.map zbT=l.map zbT):TOk bk [] l':=by
 refine ⟨fun e he=>?_,?_,fun v=>?_,?_,by simp⟩
 ·obtain ⟨y,h1,h2⟩:=zwB hk he
  have:=h.b y h1
  rw [← hbk y e h2,← this]
  simp only [zbT,QL] at h2
  exact h2.1.symm
 ·have h1:(l.map zbT).Pairwise (fun x y=>x.1≤y.1):=Yd.2 h.s
  rw [← hk] at h1
  have h2:l'.Pairwise (fun x y=>(zbT x).1≤(zbT y).1):=(Yd (f:=zbT) (R:=fun x y=>x.1≤y.1)).1 h1
  exact h2
 ·have e:∀ m:List Plc,zav v m=((m.map zbT).filter (fun x=>x.1==v)).length:=by
   intro m
   unfold zav
   rw [List.filter_map,List.length_map]
   rfl
  rw [e,hk,← e]; exact h.c v
 ·have h1:(l.map zbT).Pairwise (fun x y=>(x.2.1==y.2.1&&x.2.2.1==y.2.2.1)=false):=Yd.2 h.n
  rw [← hk] at h1
  have h2:l'.Pairwise (fun x y=>((zbT x).2.1==(zbT y).2.1&&(zbT x).2.2.1==(zbT y).2.2.1)=false):=Yd.1 h1
  exact h2
theorem zHH(s:List Int)(x y:Plc)(h:zbT x=zbT y):hbf s x=hbf s y:=by
 simp only [zbT,QL] at h
 simp only [hbf,hbk,grp,h.2.1,h.2.2.2]
theorem zHF(s:List Int)(x y:Plc)(h:zbT x=zbT y):tbf s x=tbf s y:=by
 simp only [zbT,QL] at h
 simp only [tbf,tbk,grp,h.2.1,h.2.2.1]
structure SndB (b:Bk):Prop where
 h:TOk (hbf b.salt) [] b.H
 t:TOk (tbf b.salt) [] b.T
 d:∀ x∈b.H,∀ y∈b.T,zB y.a x.a=false
theorem zEP(l:List Plc):∀ (n:Nat) (l:List Plc),(∀ e∈l,0≤e.b∧e.b<n)→(∀ v,zav v l≤8)→l.length≤8*n
 | 0,l,h,_=>by
  cases l with
  | nil=>simp
  | cons x l=>have:=h x (by simp); omega
 | n+1,l,h,hc=>by
  have ih:=zEP l n (l.filter (fun e=>!(e.b==(n:Int)))) (fun e he=>by
   have h1:=QY.1 he
   have h2:=h e h1.1
   have h3:¬ e.b=n:=by simpa using h1.2
   omega) (fun v=>QD (zkN Yf v) (hc v))
  have h1:=hc n
  have h2:l.length=(l.filter (fun e=>e.b==(n:Int))).length+(l.filter (fun e=>!(e.b==(n:Int)))).length:=by
   clear ih hc h h1
   induction l with
   | nil=>rfl
   | cons x l ih=>by_cases hx:x.b=n <;> simp [hx] <;> omega
  unfold zav at h1
  omega
theorem TOk.len{bk:Plc→Int}{N:List Adr}{l:List Plc}(h:TOk bk N l)(hb:∀ e,0≤bk e∧bk e<64):l.length≤512:=
 zEP l 64 l (fun e he=>by have:=hb e; rw [h.b e he]; exact this) h.c
theorem SndB.lenH{b:Bk}(h:SndB b):b.H.length≤512:=h.h.len (zA0 _)
theorem SndB.lenT{b:Bk}(h:SndB b):b.T.length≤512:=h.t.len (zAD _)
theorem zfw(b:Bk):zkP b=true↔SndB b:=by
 unfold zkP
 rw [zqp,zqp]
 simp only [Bool.and_eq_true,decide_eq_true_eq,zzW _ _ _ _ (TOk.nil _ _),XB,List.all_eq_true,Bool.not_eq_true',List.any_eq_false,Bool.not_eq_true]
 constructor
 ·rintro ⟨⟨_,h1⟩,⟨_,h2⟩,h3⟩
  exact ⟨h1,h2,h3⟩
 ·intro h
  exact ⟨⟨h.lenH,h.h⟩,⟨h.lenT,h.t⟩,h.d⟩
theorem zAW{l:List Plc}{a:Adr}(h:¬ zcK (fun x=>zB x.a a) l 0≥0):∀ x∈l,zB x.a a=false:=by
 rcases zmx (fun x:Plc=>zB x.a a) l 0 with ⟨h1,h2⟩ | ⟨j,hj,h1,h2,h3⟩
 ·exact h2
 ·omega
theorem zhK(l:List Plc)(a z:Nat):∀ (n i m:Nat),a≤i→i+n≤z→a≤m→m<z→a≤zda l n i m∧zda l n i m<z
 | 0,i,m,_,_,h1,h2=>⟨h1,h2⟩
 | n+1,i,m,h0,h,h1,h2=>by
  rw [zda]
  split
  ·exact zhK l a z n (i+1) i (by omega) (by omega) (by omega) (by omega)
  ·exact zhK l a z n (i+1) m (by omega) (by omega) h1 h2
theorem zrY{b:Bk}(h:SndB b)(a:Adr)(src:Int):SndB (zdz b a src).1:=by
 unfold zdz
 split
 ·refine ⟨h.h,h.t.key (zHF _) (zrz _ _ _),fun x hx y hy=>?_⟩
  obtain ⟨z,h1,h2⟩:=zwB (zrz _ _ _) hy
  rw [← zAI h2 (rfl:zbT x=zbT x)]
  exact h.d x hx z h1
 ·rename_i hT
  split
  ·refine ⟨h.h.key (zHH _) (zrz _ _ _),h.t,fun x hx y hy=>?_⟩
   obtain ⟨z,h1,h2⟩:=zwB (zrz _ _ _) hx
   rw [← zAI (rfl:zbT y=zbT y) h2]
   exact h.d z h1 y hy
  ·rename_i hH
   have nT:=zAW hT
   have nH:=zAW hH
   have dd:∀ (l':List Plc),l'.Sublist b.H→∀ x∈zgh l' ⟨hbk b.salt a src,a,src⟩,∀ y∈b.T,zB y.a x.a=false:=by
    intro l' hl' x hx y hy
    rcases zoT hx with rfl | hx
    ·exact nT y hy
    ·exact h.d x (hl'.subset hx) y hy
   split
   ·rename_i h8
    split
    ·exact h
    ·have hr:=zm8 b.H (hbk b.salt a src)
     have hm:=zhK b.H (xC b.H (hbk b.salt a src)) (toN b.H (hbk b.salt a src)) (toN b.H (hbk b.salt a src)-xC b.H (hbk b.salt a src)) (xC b.H (hbk b.salt a src)) (xC b.H (hbk b.salt a src)) (Wq _) (by omega) (Wq _) (by omega)
     generalize zda b.H (toN b.H (hbk b.salt a src)-xC b.H (hbk b.salt a src)) (xC b.H (hbk b.salt a src)) (xC b.H (hbk b.salt a src))=m at hm ⊢
     have hml:m<b.H.length:=by omega
     have hc:=zDm h.h hml
     rw [zww h.h hm.1 hm.2 hml] at hc
     exact ⟨(h.h.sub (zdI _ _)).ins rfl hc (fun x hx=>nH x ((zdI _ _).subset hx)) (by simp),h.t,dd _ (zdI _ _)⟩
   ·rename_i h8
    rw [zCl h.h] at h8
    exact ⟨h.h.ins rfl (by show zav (hbk b.salt a src) b.H≤7; omega) nH (by simp),h.t,dd _ (List.Sublist.refl _)⟩
theorem zFs{l:List Plc}(h:l.Pairwise (fun x y=>zB x.a y.a=false)){i:Nat}(hi:i<l.length):∀ x∈za3 l i,zB x.a l[i].a=false:=by
 intro x hx
 have hp:=List.pairwise_iff_getElem.1 h
 unfold za3 at hx
 rcases QC.1 hx with hx | hx
 ·obtain ⟨j,hj,rfl⟩:=XR.1 hx
  exact hp j i (by omega) hi (by omega)
 ·obtain ⟨j,hj,rfl⟩:=Yh.1 hx
  rw [zh4]
  exact hp i (i+1+j) hi (by omega) (by omega)
theorem zIO(v:Int)(a:Adr)(s:Int):(⟨v,a,s⟩:Plc).b=v:=rfl
theorem zIx(v:Int)(a:Adr)(s:Int):(⟨v,a,s⟩:Plc).a=a:=rfl
theorem zyb(b:Bk)(e:Plc):(zfM b e).b=tbk b.salt e.a:=by unfold zfM; exact zIO _ _ _
theorem zqT(b:Bk)(e:Plc):(zfM b e).a=e.a:=by unfold zfM; exact zIx _ _ _
theorem zHr(s:List Int)(e:Plc):tbf s e=tbk s e.a:=by unfold tbf; rfl
theorem zFv{b:Bk}(h:SndB b){i:Nat}(hi:i<b.H.length):SndB (zui b i b.H[i]):=by
 have hH:=h.h.sub (zdI b.H i)
 have hn:=zFs h.h.n hi
 have hd:∀ y∈b.T,zB y.a b.H[i].a=false:=fun y hy=>h.d _ (W1 hi) y hy
 have dd:∀ (l':List Plc),l'.Sublist b.T→∀ x∈za3 b.H i,∀ y∈zgh l' (zfM b b.H[i]),zB y.a x.a=false:=by
  intro l' hl' x hx y hy
  rcases zoT hy with rfl | hy
  ·rw [zh4,zqT]; exact hn x hx
  ·exact h.d x ((zdI _ _).subset hx) y (hl'.subset hy)
 have hp:(zfM b b.H[i]).b=tbk b.salt b.H[i].a:=zyb _ _
 have hq:(zfM b b.H[i]).b=tbf b.salt (zfM b b.H[i]):=by rw [hp,zHr,zqT]
 unfold zui
 split
 ·rename_i h8
  have hr:=zm8 b.T (tbk b.salt b.H[i].a)
  have hl:xC b.T (tbk b.salt b.H[i].a)<b.T.length:=by omega
  rw [Wb hl]
  simp only
  refine zrY ⟨hH,?_,dd _ (zdI _ _)⟩ _ _
  have hc:=zDm h.t hl
  rw [zww h.t (Wq _) (by omega) hl] at hc
  rw [← hp] at hc
  exact (h.t.sub (zdI _ _)).ins hq hc (fun x hx=>by rw [zqT]; exact hd x ((zdI _ _).subset hx)) (by simp)
 ·rename_i h8
  rw [zCl h.t,← hp] at h8
  exact ⟨hH,h.t.ins hq (by omega) (fun x hx=>by rw [zqT]; exact hd x hx) (by simp),dd _ (List.Sublist.refl _)⟩
def NnB(b:Bk):Prop:=(∀ e∈b.H,0≤e.a.h)∧∀ e∈b.T,0≤e.a.h
end
section
set_option maxRecDepth 100000
variable {β:Type}
def yu(l:List Plc):List V:=(yC l).flatten
theorem zsR(l:List Plc):∀ e∈yC l,e.length=5:=by
 intro e he
 obtain ⟨x,_,rfl⟩:=List.mem_map.1 he
 rfl
theorem zbv(l:List Plc):(yu l).length=l.length*5:=by
 unfold yu; rw [z7 (zsR l),xO]
theorem zmE(l m:List Plc):yu (l++m)=yu l++yu m:=by simp [yu,yC]
theorem zxw{l:List Plc}{i:Nat}(hi:i<l.length):yu l=yu (l.take i)++(l[i].v++yu (l.drop (i+1))):=by
 have e:l=l.take i++(l[i]::l.drop (i+1)):=by rw [← WP hi,Yc]
 refine (congrArg yu e).trans ?_
 rw [zmE]
 rfl
theorem ztG{l:List Plc}{i j:Nat}(hi:i<l.length)(hj:j≤5):(yu l).drop (i*5+j)=l[i].v.drop j++yu (l.drop (i+1)):=by
 rw [zxw hi]
 have e:(yu (l.take i)).length=i*5:=by rw [zbv,Ww]; congr 1; omega
 rw [Yi,e,WI (by omega),XB,show i*5+j-i*5=j by omega,Xv (by show j≤5; exact hj)]
theorem zvK{l:List Plc}{i j:Nat}(hi:i<l.length)(hj:j<5):(yu l)[i*5+j]?=l[i].v[j]?:=by
 have:=ztG hi (Nat.le_of_lt hj)
 rw [← Ym,this,← Ym]
 rw [List.head?_append]
 cases h:(l[i].v.drop j).head? with
 | some x=>rfl
 | none=>
  rw [Ym,List.getElem?_eq_none_iff] at h
  have:l[i].v.length=5:=rfl
  omega
theorem zB8{l:List Plc}{i:Nat}(hi:i<l.length):XI 3 (XJ (i*5+1) (yu l))=l[i].a.v:=by
 rw [ztG hi (by omega)]; rfl
theorem zCp{l:List Plc}{i:Nat}(hi:i<l.length):XI 5 (XJ (i*5) (yu l))=l[i].v:=by
 rw [show i*5=i*5+0 from rfl,ztG hi (by omega)]; rfl
theorem zFU(A B x:List V)(j:Nat):yh (A++B) (A.length+j) x=A++yh B j x:=by
 unfold yh
 rw [List.take_length_add_append,Nat.add_assoc,List.drop_length_add_append]
 simp
theorem zrV{l:List Plc}{i:Nat}(hi:i<l.length)(t:Int):yh (yu l) (i*5+3) [V.sc (.int .u32 (zz5 l[i].a.t t))]=yu (zrq l i t):=by
 have e:(yu (l.take i)).length=i*5:=by rw [zbv,Ww]; congr 1; omega
 have eb:zrq l i t=l.take i++(zGM t l[i]::l.drop (i+1)):=by
  unfold zrq
  rw [List.modify_eq_take_cons_drop hi]
 rw [eb,zmE,zxw hi,← e,zFU]
 rfl
theorem zef(l:List Plc):xh 5 l.length (yu l)=yC l:=by
 have:=zv3 (zsR l) (w:=l.length) (by rw [xO]; exact Wq _)
 unfold yu
 rw [this,Xu (by rw [xO]; exact Wq _)]
theorem zxJ(l:List Plc)(i:Nat)(t:Int):(zrq l i t).length=l.length:=by unfold zrq; simp
theorem zrw{n:Nat}{l:List Plc}(h:n=l.length):xh 5 n (yu l)=yC l:=by subst h; exact zef l
theorem zFI(L:Nat)(l:List Plc)(hl:l.length≤1000000)(v:Int)(kx:List (List V)→Int→Int→Option β):∀ (m i:Nat),i≤l.length→l.length-i<m →
  zdq L kx m (yC l) v (i:Int)=kx (yC l) v ((i+((l.drop i).takeWhile (fun x=>decide (x.b<v))).length:Nat):Int):=by
 intro m
 induction m with
 | zero=>intro i h1 h2; omega
 | succ m IH=>
  intro i h1 h2
  unfold zdq zhC
  rw [xO]
  by_cases h:i<l.length
  ·rw [zac (by omega),za6 (zbk h),zA (n:=l[i].b) rfl,zax,WP h,X9]
   by_cases hb:l[i].b<v
   ·rw [if_pos hb,if_pos (decide_eq_true hb),xn,zS (by omega),Ya]
    refine (IH (i+1) (by omega) (by omega)).trans ?_
    congr 2; omega
   ·rw [if_neg hb,if_neg (by simpa using hb)]; rfl
  ·rw [z9 (by omega),WI (by omega)]; rfl
theorem zHS(L:Nat)(l:List Plc)(hl:l.length≤1000000)(v f:Int)(kx:Int→Int→Option β):∀ (m i:Nat),i≤l.length→l.length-i<m →
  zcQ L kx m (yC l) v f (i:Int)=kx f ((i+((l.drop i).takeWhile (fun x=>x.b==v)).length:Nat):Int):=by
 intro m
 induction m with
 | zero=>intro i h1 h2; omega
 | succ m IH=>
  intro i h1 h2
  unfold zcQ zgk
  rw [xO]
  by_cases h:i<l.length
  ·rw [zac (by omega),za6 (zbk h),zA (n:=l[i].b) rfl,zdm,WP h,X9]
   by_cases hb:l[i].b=v
   ·rw [if_pos hb,if_pos (beq_iff_eq.2 hb),xn,zS (by omega),Ya]
    refine (IH (i+1) (by omega) (by omega)).trans ?_
    congr 2; omega
   ·rw [if_neg hb,if_neg (by simpa using hb)]; rfl
  ·rw [z9 (by omega),WI (by omega)]; rfl
theorem zB0(L:Nat)(l:List Plc)(hl:l.length≤1000000)(hL:l.length<L)(v:Int)(k:Int→Int→Option β):yQ β L (yC l) v k=k ((xC l v:Nat):Int) ((toN l v:Nat):Int):=by
 have hf:=zm8 l v
 unfold yQ zhl zlr
 rw [show ((0:Int))=((0:Nat):Int) from rfl]
 refine (zFI L l hl v _ L 0 (by omega) (by omega)).trans ?_
 rw [XU,WB]
 refine (zHS L l hl v _ _ L (xC l v) (by omega) (by omega)).trans ?_
 rfl
theorem cBk{l:List Plc}{j:Nat}(h:j<l.length)(k:Int→Option β):cI .i64 (yu l) (0+XH (j:Int)*5+0) k=k l[j].b:=by
 rw [show 0+XH (j:Int)*5+0=j*5+0 by rw [X8]; omega]
 refine zA ?_ k
 rw [zvK h (by omega)]; rfl
theorem zGn(L:Nat)(l:List Plc)(hl:l.length≤1000000)(v:Int)(kx:Nat→Int→Int→List V→Option β):∀ (m i:Nat),i≤l.length→l.length-i<m →
  zeF L kx m l.length v (i:Int) (yu l)=kx l.length v ((i+((l.drop i).takeWhile (fun x=>decide (x.b<v))).length:Nat):Int) (yu l):=by
 intro m
 induction m with
 | zero=>intro i h1 h2; omega
 | succ m IH=>
  intro i h1 h2
  unfold zeF zj6
  by_cases h:i<l.length
  ·rw [zac (by omega),zb (by omega),cBk h,zax,WP h,X9]
   by_cases hb:l[i].b<v
   ·rw [if_pos hb,if_pos (decide_eq_true hb),xn,zS (by omega),Ya]
    refine (IH (i+1) (by omega) (by omega)).trans ?_
    congr 2; omega
   ·rw [if_neg hb,if_neg (by simpa using hb)]; rfl
  ·rw [z9 (by omega),WI (by omega)]; rfl
theorem zIe(L:Nat)(l:List Plc)(hl:l.length≤1000000)(v f:Int)(kx:Int→Int→List V→Option β):∀ (m i:Nat),i≤l.length→l.length-i<m →
  zdE L kx m l.length v f (i:Int) (yu l)=kx f ((i+((l.drop i).takeWhile (fun x=>x.b==v)).length:Nat):Int) (yu l):=by
 intro m
 induction m with
 | zero=>intro i h1 h2; omega
 | succ m IH=>
  intro i h1 h2
  unfold zdE zh7
  by_cases h:i<l.length
  ·rw [zac (by omega),zb (by omega),cBk h,zdm,WP h,X9]
   by_cases hb:l[i].b=v
   ·rw [if_pos hb,if_pos (beq_iff_eq.2 hb),xn,zS (by omega),Ya]
    refine (IH (i+1) (by omega) (by omega)).trans ?_
    congr 2; omega
   ·rw [if_neg hb,if_neg (by simpa using hb)]; rfl
  ·rw [z9 (by omega),WI (by omega)]; rfl
theorem zAt(L:Nat)(l:List Plc)(hl:l.length≤1000000)(hL:l.length<L)(v:Int)(k:Int→Int→List V→Option β):yj β L l.length v (yu l) k=k ((xC l v:Nat):Int) ((toN l v:Nat):Int) (yu l):=by
 have hf:=zm8 l v
 unfold yj zkS zoG
 rw [show ((0:Int))=((0:Nat):Int) from rfl]
 refine (zGn L l hl v _ L 0 (by omega) (by omega)).trans ?_
 rw [XU,WB]
 refine (zIe L l hl v _ _ L (xC l v) (by omega) (by omega)).trans ?_
 rfl
theorem zsJ{n m:Nat}(h:n≤1000000)(hm:m≤1000000):(n+m)*24≤xq∧n+m≤xq:=by
 simp only [xq]; omega
theorem zsh(l:List Plc)(i:Nat):(yC l).take i=yC (l.take i):=by simp [yC,List.map_take]
theorem zAS(l:List Plc)(i:Nat):(yC l).drop i=yC (l.drop i):=by simp [yC,List.map_drop]
theorem zHe(p:Plc):xh 5 1 (yh [(Qe (0:Int)),(Qc (0:Int)),(Qb (0:Int)),(Qc (0:Int)),(Qc (0:Int))] 0 p.v)=yC [p]:=by
 rw [zmG (by rfl)]; rfl
theorem zE7(l:List Plc)(i:Nat):XI (l.length-i) (XJ i l)=XJ i l:=Xu (by simp)
theorem zsa(L:Nat)(l:List Plc)(hl:l.length≤900000)(hL:l.length<L)(p:Plc)(k:List (List V)→Option β):zi β L (yC l) p.v k=k (yC (zgh l p)):=by
 have hf:=zm8 l p.b
 have e1:XI 5 p.v=p.v:=rfl
 unfold zi zoo
 rw [zA (n:=p.b) rfl,zB0 L l (by omega) hL,xO,zb (by omega),Nat.sub_zero,X8,XU,zsh,xO,zb (zsJ (by simp) (by simp; omega)),xn,XB,zb (by show 0+5≤5; omega),e1,zb ⟨rfl,by omega⟩,zHe,xO,xO,zb (zsJ (by simp; omega) (by simp)),xn,zxS,zb (by omega),zAS,zsh,xO,xO,zb (zsJ (by simp; omega) (by simp; omega)),xn,zxS,zE7]
 rfl
theorem zHi{n:Nat}{l:List Plc}(h:n≤l.length):xh 5 n (yu l)=yC (l.take n):=by
 unfold yu
 rw [zv3 (zsR l) (w:=n) (by rw [xO]; exact h),zsh]
theorem zDa{i:Nat}{l:List Plc}(h:i≤l.length):XJ (i*5) (yu l)=yu (l.drop i):=by
 have e:yu l=yu (l.take i)++yu (l.drop i):=by rw [← zmE,Yc]
 have e':(yu (l.take i)).length=i*5:=by rw [zbv,Ww]; congr 1; omega
 rw [e,Xv (by omega),WI (by omega),XB]
theorem zHT{i:Nat}{l:List Plc}(h:i≤l.length):xh 5 (l.length-i) (XJ (0+i*5) (yu l))=yC (l.drop i):=by
 rw [WB,zDa h]; exact zrw (by simp)
theorem zCF(c:Bool)(a:Option β):ifb c a a=a:=by cases c <;> rfl
theorem zvM(L:Nat)(l:List Plc)(hl:l.length≤900000)(i:Nat)(hi:i<l.length)(k:List (List V)→List V→Option β):zj β L l.length (i:Int) (yu l) k=k (yC (za3 l i)) (yu l):=by
 unfold zj zoF
 rw [zb (by omega),Nat.sub_zero,X8,zHi (by omega),xO,zb (zsJ (by simp) (by simp; omega)),xn,XB,xn,zS (by omega),zb (by omega),X8,zHT (by omega),xO,xO,zb (zsJ (by simp; omega) (by simp; omega)),xn,zxS]
 rfl
theorem zDQ(L:Nat)(ps:List Plc)(hp:ps.length≤1000000)(a:Adr)(kr:Int→List V→Option β)(kx:List V→Option β)(k:Int→List V→Option β)(hr:∀ i b,kr i b=k i b)(hx:∀ b,kx b=k (-1) b):∀ (m i:Nat),i≤ps.length→ps.length-i<m →
  zd4 yf L kr kx m ps.length (i:Int) (yu ps) a.v=k (zcK (fun e=>zB e.a a) (ps.drop i) i) (yu ps):=by
 intro m
 induction m with
 | zero=>intro i h1 h2; omega
 | succ m IH=>
  intro i h1 h2
  unfold zd4 zjf
  by_cases h:i<ps.length
  ·have e1:0+XH (i:Int)*5+1=i*5+1:=by rw [X8]; omega
   rw [zac (by omega),zb (by omega),e1,zb (by rw [zbv]; omega),zb (by show 0+3≤3; omega),zB8 h,zeG,zDw,WP h,zcK,xn,zS (by omega)]
   have ih:=IH (i+1) (by omega) (by omega)
   cases zB ps[i].a a with
   | true=>exact hr _ _
   | false=>exact ih
  ·rw [z9 (by omega),WI (by omega),hx]; rfl
theorem zCn(L:Nat)(ps:List Plc)(hp:ps.length≤1000000)(hL:ps.length<L)(a:Adr)(k:Int→List V→Option β):yl β L ps.length a.v (yu ps) k=k (zcK (fun e=>zB e.a a) ps 0) (yu ps):=by
 unfold yl zjN zm9
 rw [show ((0:Int))=((0:Nat):Int) from rfl]
 refine (zDQ L ps hp a _ _ k (fun _ _=>rfl) (fun _=>rfl) L 0 (by omega) (by omega)).trans ?_
 rfl
theorem zl(b:Bk)(j:Nat)(h:j<32)(k:Int→Option β):cI .u8 b.v j k=k (b.salt.getD j 0):=by
 refine zA ?_ k
 have hs:=b.hs
 rw [Bk.v,Wv (by rw [zcI]; omega),row,List.getElem?_map,List.getD_eq_getElem?_getD,Wb (by omega)]
 rfl
theorem zF9:∀ (s:List Int),s.length=32→row .u8 s=[V.sc (.int .u8 (s.getD 0 0)),V.sc (.int .u8 (s.getD 1 0)),V.sc (.int .u8 (s.getD 2 0)),V.sc (.int .u8 (s.getD 3 0)),V.sc (.int .u8 (s.getD 4 0)),V.sc (.int .u8 (s.getD 5 0)),V.sc (.int .u8 (s.getD 6 0)),V.sc (.int .u8 (s.getD 7 0)),V.sc (.int .u8 (s.getD 8 0)),V.sc (.int .u8 (s.getD 9 0)),V.sc (.int .u8 (s.getD 10 0)),V.sc (.int .u8 (s.getD 11 0)),V.sc (.int .u8 (s.getD 12 0)),V.sc (.int .u8 (s.getD 13 0)),V.sc (.int .u8 (s.getD 14 0)),V.sc (.int .u8 (s.getD 15 0)),V.sc (.int .u8 (s.getD 16 0)),V.sc (.int .u8 (s.getD 17 0)),V.sc (.int .u8 (s.getD 18 0)),V.sc (.int .u8 (s.getD 19 0)),V.sc (.int .u8 (s.getD 20 0)),V.sc (.int .u8 (s.getD 21 0)),V.sc (.int .u8 (s.getD 22 0)),V.sc (.int .u8 (s.getD 23 0)),V.sc (.int .u8 (s.getD 24 0)),V.sc (.int .u8 (s.getD 25 0)),V.sc (.int .u8 (s.getD 26 0)),V.sc (.int .u8 (s.getD 27 0)),V.sc (.int .u8 (s.getD 28 0)),V.sc (.int .u8 (s.getD 29 0)),V.sc (.int .u8 (s.getD 30 0)),V.sc (.int .u8 (s.getD 31 0))]
 | [x0,x1,x2,x3,x4,x5,x6,x7,x8,x9,x10,x11,x12,x13,x14,x15,x16,x17,x18,x19,x20,x21,x22,x23,x24,x25,x26,x27,x28,x29,x30,x31],_=>rfl
theorem Bk.cells(b:Bk):[V.sc (.int .u8 (b.salt.getD 0 0)),V.sc (.int .u8 (b.salt.getD 1 0)),V.sc (.int .u8 (b.salt.getD 2 0)),V.sc (.int .u8 (b.salt.getD 3 0)),V.sc (.int .u8 (b.salt.getD 4 0)),V.sc (.int .u8 (b.salt.getD 5 0)),V.sc (.int .u8 (b.salt.getD 6 0)),V.sc (.int .u8 (b.salt.getD 7 0)),V.sc (.int .u8 (b.salt.getD 8 0)),V.sc (.int .u8 (b.salt.getD 9 0)),V.sc (.int .u8 (b.salt.getD 10 0)),V.sc (.int .u8 (b.salt.getD 11 0)),V.sc (.int .u8 (b.salt.getD 12 0)),V.sc (.int .u8 (b.salt.getD 13 0)),V.sc (.int .u8 (b.salt.getD 14 0)),V.sc (.int .u8 (b.salt.getD 15 0)),V.sc (.int .u8 (b.salt.getD 16 0)),V.sc (.int .u8 (b.salt.getD 17 0)),V.sc (.int .u8 (b.salt.getD 18 0)),V.sc (.int .u8 (b.salt.getD 19 0)),V.sc (.int .u8 (b.salt.getD 20 0)),V.sc (.int .u8 (b.salt.getD 21 0)),V.sc (.int .u8 (b.salt.getD 22 0)),V.sc (.int .u8 (b.salt.getD 23 0)),V.sc (.int .u8 (b.salt.getD 24 0)),V.sc (.int .u8 (b.salt.getD 25 0)),V.sc (.int .u8 (b.salt.getD 26 0)),V.sc (.int .u8 (b.salt.getD 27 0)),V.sc (.int .u8 (b.salt.getD 28 0)),V.sc (.int .u8 (b.salt.getD 29 0)),V.sc (.int .u8 (b.salt.getD 30 0)),V.sc (.int .u8 (b.salt.getD 31 0))]=row .u8 b.salt:=(zF9 b.salt b.hs).symm
theorem Bk.mk_v(b:Bk)(x y:List (List V)):[V.sc (.int .u8 (b.salt.getD 0 0)),V.sc (.int .u8 (b.salt.getD 1 0)),V.sc (.int .u8 (b.salt.getD 2 0)),V.sc (.int .u8 (b.salt.getD 3 0)),V.sc (.int .u8 (b.salt.getD 4 0)),V.sc (.int .u8 (b.salt.getD 5 0)),V.sc (.int .u8 (b.salt.getD 6 0)),V.sc (.int .u8 (b.salt.getD 7 0)),V.sc (.int .u8 (b.salt.getD 8 0)),V.sc (.int .u8 (b.salt.getD 9 0)),V.sc (.int .u8 (b.salt.getD 10 0)),V.sc (.int .u8 (b.salt.getD 11 0)),V.sc (.int .u8 (b.salt.getD 12 0)),V.sc (.int .u8 (b.salt.getD 13 0)),V.sc (.int .u8 (b.salt.getD 14 0)),V.sc (.int .u8 (b.salt.getD 15 0)),V.sc (.int .u8 (b.salt.getD 16 0)),V.sc (.int .u8 (b.salt.getD 17 0)),V.sc (.int .u8 (b.salt.getD 18 0)),V.sc (.int .u8 (b.salt.getD 19 0)),V.sc (.int .u8 (b.salt.getD 20 0)),V.sc (.int .u8 (b.salt.getD 21 0)),V.sc (.int .u8 (b.salt.getD 22 0)),V.sc (.int .u8 (b.salt.getD 23 0)),V.sc (.int .u8 (b.salt.getD 24 0)),V.sc (.int .u8 (b.salt.getD 25 0)),V.sc (.int .u8 (b.salt.getD 26 0)),V.sc (.int .u8 (b.salt.getD 27 0)),V.sc (.int .u8 (b.salt.getD 28 0)),V.sc (.int .u8 (b.salt.getD 29 0)),V.sc (.int .u8 (b.salt.getD 30 0)),V.sc (.int .u8 (b.salt.getD 31 0)),(V.sl 5 x),(V.sl 5 y)]=row .u8 b.salt++[.sl 5 x,.sl 5 y]:=by
 rw [← b.cells]; rfl
theorem zAy(L:Nat)(b:Bk)(hH:b.H.length≤1000000)(hT:b.T.length≤1000000)(k:zlc β):xj β L b.v k=k (b.salt.getD 0 0) (b.salt.getD 1 0) (b.salt.getD 2 0) (b.salt.getD 3 0) (b.salt.getD 4 0) (b.salt.getD 5 0) (b.salt.getD 6 0) (b.salt.getD 7 0) (b.salt.getD 8 0) (b.salt.getD 9 0) (b.salt.getD 10 0) (b.salt.getD 11 0) (b.salt.getD 12 0) (b.salt.getD 13 0) (b.salt.getD 14 0) (b.salt.getD 15 0) (b.salt.getD 16 0) (b.salt.getD 17 0) (b.salt.getD 18 0) (b.salt.getD 19 0) (b.salt.getD 20 0) (b.salt.getD 21 0) (b.salt.getD 22 0) (b.salt.getD 23 0) (b.salt.getD 24 0) (b.salt.getD 25 0) (b.salt.getD 26 0) (b.salt.getD 27 0) (b.salt.getD 28 0) (b.salt.getD 29 0) (b.salt.getD 30 0) (b.salt.getD 31 0) b.H.length b.T.length (yu b.H) (yu b.T):=by
 unfold xj zoB
 rw [zb b.len,zl b 0 (by omega),zl b 1 (by omega),zl b 2 (by omega),zl b 3 (by omega),zl b 4 (by omega),zl b 5 (by omega),zl b 6 (by omega),zl b 7 (by omega),zl b 8 (by omega),zl b 9 (by omega),zl b 10 (by omega),zl b 11 (by omega),zl b 12 (by omega),zl b 13 (by omega),zl b 14 (by omega),zl b 15 (by omega),zl b 16 (by omega),zl b 17 (by omega),zl b 18 (by omega),zl b 19 (by omega),zl b 20 (by omega),zl b 21 (by omega),zl b 22 (by omega),zl b 23 (by omega),zl b 24 (by omega),zl b 25 (by omega),zl b 26 (by omega),zl b 27 (by omega),zl b 28 (by omega),zl b 29 (by omega),zl b 30 (by omega),zl b 31 (by omega)]
 have g1:∀ k:List (List V)→Option β,cL 5 b.v 32 k=k (yC b.H):=zmM b.g32
 have g2:∀ k:List (List V)→Option β,cL 5 b.v 33 k=k (yC b.T):=zmM b.g33
 rw [g1,g2,xO,xO,zb (zsJ (by simp) hH),zb (zsJ (by simp) hT)]
 rfl
end
section
set_option maxRecDepth 100000
variable {β:Type}
theorem zqL{l:List Plc}{a:Adr}(h:zcK (fun x=>zB x.a a) l 0≥0):∃ j:Nat,j<l.length∧zcK (fun x=>zB x.a a) l 0=(j:Int):=by
 rcases zmx (fun x:Plc=>zB x.a a) l 0 with ⟨h1,h2⟩ | ⟨j,hj,h1,h2,h3⟩
 ·omega
 ·exact ⟨j,hj,by rw [h1,WB]⟩
theorem at3(j:Nat):0+XH (j:Int)*5+1+2=j*5+3:=by rw [X8]; omega
theorem cT{l:List Plc}{j:Nat}(h:j<l.length)(k:Int→Option β):cI .u32 (yu l) (j*5+3) k=k l[j].a.t:=by
 refine zA ?_ k
 rw [zvK h (by omega)]; rfl
theorem zmI{l:List Plc}{j:Nat}(h:j<l.length):zs9 l j=l[j].a.t:=by
 unfold zs9; rw [Wb h]
theorem zGL(v:Int)(a:Adr)(s:Int):yh [(Qe (0:Int)),(Qc (0:Int)),(Qb (0:Int)),(Qc (0:Int)),(Qc (0:Int))] 0 (yh (yh [(Qe v),(Qc (0:Int)),(Qb (0:Int)),(Qc (0:Int)),(Qc (0:Int))] 1 a.v) 4 [(Qc s)])=(⟨v,a,s⟩:Plc).v:=rfl
theorem zkr(p:Plc):XI 5 p.v=p.v:=rfl
theorem zEg(L:Nat)(b:Bk)(hH:b.H.length≤1000000)(z:Nat)(hz:z≤b.H.length)(b4 p:List V)(tl:Nat)(tf:List V)(kx:zoK β):∀ (m i c:Nat),i≤z→z-i<m→c<b.H.length →
  zb9 xj yl yb yj zi zj L kx m (z:Int) (c:Int) (i:Int) b4 0 0 0 0 0 0 0 0 0 0 0 0 0 0 0 0 0 0 0 0 0 0 0 0 0 0 0 0 0 0 0 0 [] [] (b.salt.getD 0 0) (b.salt.getD 1 0) (b.salt.getD 2 0) (b.salt.getD 3 0) (b.salt.getD 4 0) (b.salt.getD 5 0) (b.salt.getD 6 0) (b.salt.getD 7 0) (b.salt.getD 8 0) (b.salt.getD 9 0) (b.salt.getD 10 0) (b.salt.getD 11 0) (b.salt.getD 12 0) (b.salt.getD 13 0) (b.salt.getD 14 0) (b.salt.getD 15 0) (b.salt.getD 16 0) (b.salt.getD 17 0) (b.salt.getD 18 0) (b.salt.getD 19 0) (b.salt.getD 20 0) (b.salt.getD 21 0) (b.salt.getD 22 0) (b.salt.getD 23 0) (b.salt.getD 24 0) (b.salt.getD 25 0) (b.salt.getD 26 0) (b.salt.getD 27 0) (b.salt.getD 28 0) (b.salt.getD 29 0) (b.salt.getD 30 0) (b.salt.getD 31 0) b.H.length tl p (yu b.H) tf
   = kx ((zda b.H (z-i) i c:Nat):Int) b4 0 0 0 0 0 0 0 0 0 0 0 0 0 0 0 0 0 0 0 0 0 0 0 0 0 0 0 0 0 0 0 0 [] [] (b.salt.getD 0 0) (b.salt.getD 1 0) (b.salt.getD 2 0) (b.salt.getD 3 0) (b.salt.getD 4 0) (b.salt.getD 5 0) (b.salt.getD 6 0) (b.salt.getD 7 0) (b.salt.getD 8 0) (b.salt.getD 9 0) (b.salt.getD 10 0) (b.salt.getD 11 0) (b.salt.getD 12 0) (b.salt.getD 13 0) (b.salt.getD 14 0) (b.salt.getD 15 0) (b.salt.getD 16 0) (b.salt.getD 17 0) (b.salt.getD 18 0) (b.salt.getD 19 0) (b.salt.getD 20 0) (b.salt.getD 21 0) (b.salt.getD 22 0) (b.salt.getD 23 0) (b.salt.getD 24 0) (b.salt.getD 25 0) (b.salt.getD 26 0) (b.salt.getD 27 0) (b.salt.getD 28 0) (b.salt.getD 29 0) (b.salt.getD 30 0) (b.salt.getD 31 0) b.H.length tl p (yu b.H) tf:=by
 intro m
 induction m with
 | zero=>intro i c h1 h2 h3; omega
 | succ m IH=>
  intro i c h1 h2 h3
  unfold zb9 zfq
  by_cases h:i<z
  ·have hi:i<b.H.length:=by omega
   rw [zac (by omega),zb (by omega),at3,cT hi,zb (by omega),at3,cT h3,zax,show z-i=(z-(i+1))+1 by omega,zda,zmI hi,zmI h3]
   by_cases ht:b.H[i].a.t<b.H[c].a.t
   ·rw [if_pos ht,if_pos ht,xn,zS (by omega)]
    exact IH (i+1) i (by omega) (by omega) hi
   ·rw [if_neg ht,if_neg ht,xn,zS (by omega)]
    exact IH (i+1) c (by omega) (by omega) h3
  ·rw [z9 (by omega),show z-i=0 by omega]; rfl
theorem Bk.v_mk(b:Bk)(H T:List Plc):row .u8 b.salt++[V.sl 5 (yC H),V.sl 5 (yC T)]=(⟨b.salt,H,T,b.hs⟩:Bk).v:=rfl
theorem zDj(L:Nat)(hL:200000<L)(b:Bk)(hH:b.H.length≤100000)(hT:b.T.length≤100000)(a:Adr)(src:Int)(k:List V→Bool→Option β):yI β (L+100) b.v a.v src k=k (zdz b a src).1.v (zdz b a src).2:=by
 unfold yI zny zru
 rw [zb (by rw [b.len]; omega),b.take,b.dem,zAy _ b (by omega) (by omega),zb (by show 0+3≤3; omega),zeG,zCn _ b.T (by omega) (by omega),zb rfl,zax]
 unfold zdz
 by_cases h:zcK (fun x=>zB x.a a) b.T 0≥0
 ·obtain ⟨j,hj,e⟩:=zqL h
  rw [if_pos h,if_pos h,e,zb (by omega),at3,cT hj,zA (n:=a.t) rfl,xn,zb (by omega),zb ⟨rfl,by rw [zbv]; omega⟩,xn,zrV hj,zef,zrw (zxJ _ _ _).symm,b.mk_v,b.v_mk,X8]
 ·rw [if_neg h,if_neg h,zb (by show 0+3≤3; omega),zCn _ b.H (by omega) (by omega),zb rfl,zax]
  by_cases h':zcK (fun x=>zB x.a a) b.H 0≥0
  ·obtain ⟨j,hj,e⟩:=zqL h'
   rw [if_pos h',if_pos h',e,zb (by omega),at3,cT hj,zA (n:=a.t) rfl,xn,zb (by omega),zb ⟨rfl,by rw [zbv]; omega⟩,xn,zrV hj,zef,zrw (zxJ _ _ _).symm,b.mk_v,b.v_mk,X8]
  ·rw [if_neg h',if_neg h',zb (by rw [b.len]; omega),zb (by show 0+3≤3; omega),b.t32,zG1 L b.salt b.hs]
   generalize hbk b.salt a src=v
   have hr:=zm8 b.H v
   rw [zb (by show 0+3≤3; omega),zb ⟨rfl,by omega⟩,zb (by show 1=1∧4+1≤5; omega),zb ⟨rfl,by omega⟩,zGL,xn,zA (n:=v) rfl]
   rw [zAt _ b.H (by omega) (by omega),zb rfl,xn,y5 (by omega) (by omega),zax]
   by_cases h8:toN b.H v-xC b.H v≥8
   ·rw [if_pos (by omega),if_pos h8]
    refine (zEg (L+100) b (by omega) (toN b.H v) hr.2 a.v _ _ _ _ (L+100) (xC b.H v) (xC b.H v) hr.1 (by omega) (by omega)).trans ?_
    have hm:=zhK b.H (xC b.H v) (toN b.H v) (toN b.H v-xC b.H v) (xC b.H v) (xC b.H v) (Wq _) (by omega) (Wq _) (by omega)
    generalize zda b.H (toN b.H v-xC b.H v) (xC b.H v) (xC b.H v)=m at hm ⊢
    have hml:m<b.H.length:=by omega
    unfold zeC
    rw [zb (by omega),at3,cT hml,zA (n:=a.t) rfl,zax,zmI hml]
    by_cases ht:b.H[m].a.t≥a.t
    ·rw [if_pos ht,if_pos ht,zef,zef,b.mk_v,b.v_mk]
    ·have hlr:(za3 b.H m).length≤b.H.length:=(zdI _ _).length_le
     rw [if_neg ht,if_neg ht,zvM _ b.H (by omega) m hml,zb rfl,zb (by show 0+5≤5; omega),zkr,zsa _ (za3 b.H m) (by omega) (by omega),zef,b.mk_v,b.v_mk]
   ·rw [if_neg (by omega),if_neg h8,zb (by show 0+5≤5; omega),zkr,zCF,zef,zsa _ b.H (by omega) (by omega),zef,b.mk_v,b.v_mk]
end
section
set_option maxRecDepth 100000
variable {β:Type}
def bk0:Bk:=⟨We 32 0,[],[],by rfl⟩
theorem zG4:We 32 (Qa (0:Int))++[(V.sl 5 ([]:List (List V))),(V.sl 5 ([]:List (List V)))]=bk0.v:=rfl
theorem zFW(b:Bk)(k:List V→Int→Option β):chk (List.length b.v=34) (cI .u8 b.v 0 fun v0=>cI .u8 b.v 1 fun v1=>cI .u8 b.v 2 fun v2=>cI .u8 b.v 3 fun v3=>cI .u8 b.v 4 fun v4=>cI .u8 b.v 5 fun v5=>cI .u8 b.v 6 fun v6=>cI .u8 b.v 7 fun v7=>cI .u8 b.v 8 fun v8=>cI .u8 b.v 9 fun v9=>cI .u8 b.v 10 fun v10=>cI .u8 b.v 11 fun v11=>cI .u8 b.v 12 fun v12=>cI .u8 b.v 13 fun v13=>cI .u8 b.v 14 fun v14=>cI .u8 b.v 15 fun v15=>cI .u8 b.v 16 fun v16=>cI .u8 b.v 17 fun v17=>cI .u8 b.v 18 fun v18=>cI .u8 b.v 19 fun v19=>cI .u8 b.v 20 fun v20=>cI .u8 b.v 21 fun v21=>cI .u8 b.v 22 fun v22=>cI .u8 b.v 23 fun v23=>cI .u8 b.v 24 fun v24=>cI .u8 b.v 25 fun v25=>cI .u8 b.v 26 fun v26=>cI .u8 b.v 27 fun v27=>cI .u8 b.v 28 fun v28=>cI .u8 b.v 29 fun v29=>cI .u8 b.v 30 fun v30=>cI .u8 b.v 31 fun v31=>cL 5 b.v 32 fun v32=>cL 5 b.v 33 fun v33=>k [V.sc (.int .u8 v0),V.sc (.int .u8 v1),V.sc (.int .u8 v2),V.sc (.int .u8 v3),V.sc (.int .u8 v4),V.sc (.int .u8 v5),V.sc (.int .u8 v6),V.sc (.int .u8 v7),V.sc (.int .u8 v8),V.sc (.int .u8 v9),V.sc (.int .u8 v10),V.sc (.int .u8 v11),V.sc (.int .u8 v12),V.sc (.int .u8 v13),V.sc (.int .u8 v14),V.sc (.int .u8 v15),V.sc (.int .u8 v16),V.sc (.int .u8 v17),V.sc (.int .u8 v18),V.sc (.int .u8 v19),V.sc (.int .u8 v20),V.sc (.int .u8 v21),V.sc (.int .u8 v22),V.sc (.int .u8 v23),V.sc (.int .u8 v24),V.sc (.int .u8 v25),V.sc (.int .u8 v26),V.sc (.int .u8 v27),V.sc (.int .u8 v28),V.sc (.int .u8 v29),V.sc (.int .u8 v30),V.sc (.int .u8 v31),(V.sl 5 v32),(V.sl 5 v33)] (0:Int))=k b.v 0:=by
 rw [zb b.len,zl b 0 (by omega),zl b 1 (by omega),zl b 2 (by omega),zl b 3 (by omega),zl b 4 (by omega),zl b 5 (by omega),zl b 6 (by omega),zl b 7 (by omega),zl b 8 (by omega),zl b 9 (by omega),zl b 10 (by omega),zl b 11 (by omega),zl b 12 (by omega),zl b 13 (by omega),zl b 14 (by omega),zl b 15 (by omega),zl b 16 (by omega),zl b 17 (by omega),zl b 18 (by omega),zl b 19 (by omega),zl b 20 (by omega),zl b 21 (by omega),zl b 22 (by omega),zl b 23 (by omega),zl b 24 (by omega),zl b 25 (by omega),zl b 26 (by omega),zl b 27 (by omega),zl b 28 (by omega),zl b 29 (by omega),zl b 30 (by omega),zl b 31 (by omega)]
 have g1:∀ k:List (List V)→Option β,cL 5 b.v 32 k=k (yC b.H):=zmM b.g32
 have g2:∀ k:List (List V)→Option β,cL 5 b.v 33 k=k (yC b.T):=zmM b.g33
 rw [g1,g2,b.mk_v,b.v_mk]
theorem zIJ(e:Plc)(v:Int):yh e.v 0 [V.sc (.int .i64 v)]=(⟨v,e.a,e.s⟩:Plc).v:=rfl
theorem zI3(b:Bk)(e:Plc):yh e.v 0 [V.sc (.int .i64 (tbk b.salt e.a))]=(zfM b e).v:=by
 unfold zfM
 exact zIJ e _
theorem z3(a:Adr):yh [(Qc (0:Int)),(Qb (0:Int)),(Qc (0:Int))] 0 a.v=a.v:=zmG rfl
theorem z5(p:Plc):yh [(Qe (0:Int)),(Qc (0:Int)),(Qb (0:Int)),(Qc (0:Int)),(Qc (0:Int))] 0 p.v=p.v:=zmG rfl
theorem at0(j:Nat):0+XH (j:Int)*5=j*5:=by rw [X8]; omega
theorem p13(p:Plc):XI 3 (XJ 1 p.v)=p.a.v:=rfl
theorem cB0(p:Plc)(k:Int→Option β):cI .i64 p.v 0 k=k p.b:=zA rfl k
theorem zHE(L:Nat)(hL:200000<L)(b:Bk)(hS:SndB b)(a:Adr)(j:Nat)(hj:j<b.H.length)(hf:zcK (fun x=>zB x.a a) b.H 0=(j:Int))(k:List V→Int→Option β):xv β (L+100) b.v a.v k=k (zui b j b.H[j]).v 0:=by
 have hH:=hS.lenH
 have hT:=hS.lenT
 have hrl:(za3 b.H j).length≤b.H.length:=(zdI _ _).length_le
 have hne:b.H.isEmpty=false:=by
  cases he:b.H with
  | nil=>rw [he] at hj; simp at hj
  | cons x l=>rfl
 unfold xv zrk
 rw [zb (by rw [b.len]; omega),b.take,b.dem,zFt _ b (by omega) (by omega) (by omega),(zfw b).2 hS,Xg,zb6,zbi b.g32,zb (by show 0+3≤3; omega),zeG,zz8 _ b.H (by omega) (by omega),hf,zax,if_neg (by omega),zb (by rw [b.len]; omega),zAy _ b (by omega) (by omega),zb (by omega),at0,zb (by rw [zbv]; omega),zCp hj,zb ⟨rfl,by omega⟩,z5,xn,zvM _ b.H (by omega) j hj,zb rfl,zb (by rw [b.len]; omega),zb (by show 1+3≤5; omega),b.t32,p13,zEy L b.salt b.hs,zb (by show 1=1∧0+1≤5; omega),xn,zI3,cB0,zyb]
 unfold zui
 have hb:(zfM b b.H[j]).b=tbk b.salt b.H[j].a:=zyb _ _
 generalize zfM b b.H[j]=p at hb ⊢
 generalize tbk b.salt b.H[j].a=v at hb ⊢
 have hr:=zm8 b.T v
 rw [zAt _ b.T (by omega) (by omega),zb rfl,xn,y5 (by omega) (by omega),zax]
 by_cases h8:toN b.T v-xC b.T v≥8
 ·have hl:xC b.T v<b.T.length:=by omega
  have hrt:(za3 b.T (xC b.T v)).length≤b.T.length:=(zdI _ _).length_le
  have hil:(zgh (za3 b.T (xC b.T v)) p).length≤b.T.length+1:=by
   unfold zgh
   simp only [Wm,Ww,XD,Yn]
   omega
  rw [if_pos (by omega),if_pos h8,zb (by omega),at0,zb (by rw [zbv]; omega),zB8 hl,zb ⟨rfl,by omega⟩,z3,xn,zvM _ b.T (by omega) _ hl,zb rfl,zb (by show 0+5≤5; omega),zkr,zsa _ (za3 b.T (xC b.T v)) (by omega) (by omega),zax,if_pos (by omega),zb (by show 0+3≤3; omega),zb (by show 0+3≤3; omega),zeG,zxW,b.mk_v,b.v_mk,zDj L hL _ (by show (za3 b.H j).length≤100000; omega) (by show (zgh (za3 b.T (xC b.T v)) p).length≤100000; omega)]
  rw [Wb hl]
  exact zFW _ k
 ·rw [if_neg (by omega),if_neg h8,zb (by show 0+5≤5; omega),zkr,zCF,zef,zsa _ b.T (by omega) (by omega),zax,if_neg (by omega),b.mk_v,b.v_mk]
theorem z34(z:List V)(hz:z.length=34)(b:Bk):yh z 0 b.v=b.v:=zmG (by rw [b.len,hz])
theorem zGk(L:Nat)(hL:200000<L)(b:Bk)(hS:SndB b)(a:Adr)(src:Int)(k:List V→Bool→Int→Option β):yr β (L+100) b.v a.v src k=k (zdz b a src).1.v (zdz b a src).2 0:=by
 have hH:=hS.lenH
 have hT:=hS.lenT
 unfold yr zpX
 rw [zb (by rw [b.len]; omega),b.take,b.dem,zFt _ b (by omega) (by omega) (by omega),(zfw b).2 hS,Xg,zb6,zb (by rw [b.len]; omega),zb (by show 0+3≤3; omega),zeG,zDj L hL b (by omega) (by omega)]
 generalize (zdz b a src).1=b'
 generalize (zdz b a src).2=r
 rw [zb ⟨b'.len,by omega⟩,z34 _ (by simp),xn,zb (by rw [b'.len]; omega),b'.take,zb ⟨b'.len,by omega⟩,z34 _ (by simp),xn,zb ⟨rfl,b'.len,by omega⟩]
end
section
set_option maxRecDepth 100000
theorem zIb(L:Nat)(v n:Int)(hn:1≤n)(hn2:n≤1000000000000):∃ r,0≤r∧r<n∧∀ (β:Type) (k:Int→Option β),zaY β L v n k=k r:=by
 by_cases h:XM v n<0
 ·have h1:=Int.lt_tmod_of_pos v (show 0<n by omega)
  refine ⟨XM v n+n,by omega,by omega,fun β k=>?_⟩
  simp only [zaY,zqy,xn]
  rw [zb (by omega),zac h,y5 (by omega) (by omega)]
 ·have h1:=Int.tmod_lt_of_pos v (show 0<n by omega)
  refine ⟨XM v n,by omega,h1,fun β k=>?_⟩
  simp only [zaY,zqy,xn]
  rw [zb (by omega),z9 h]
structure Dk where
 l:List Int
 a:Int
 h0:0≤a
 h1:a≤l.length
 hl:l.length≤9223372036854775807
def Dk.es(d:Dk):List (List V):=zaj .i64 d.l
theorem zgp(L:Nat)(d:Dk)(n:Int)(hn:1≤n)(hn2:n≤1000000000000):∃ (r:Int) (d':Dk),d'.l=d.l∧0≤r∧r<n∧∀ (β:Type) (k:Int→List (List V)→Int→Option β),xa β L n d.es d.a k=k r d'.es d'.a:=by
 obtain ⟨l,a,h0,h1,hl⟩:=d
 simp only [Dk.es]
 by_cases h:a<l.length
 ·obtain ⟨i,rfl⟩:∃ i:Nat,a=i:=⟨a.toNat,by omega⟩
  have hi:i<l.length:=by omega
  obtain ⟨r,q1,q2,q3⟩:=zIb L l[i] n hn hn2
  refine ⟨r,⟨l,i+1,by omega,by omega,hl⟩,rfl,q1,q2,fun β k=>?_⟩
  simp only [xa,zh8,xS,zic,xn,zdk]
  have w1:QF .i64 ((i:Int)+1)=(i:Int)+1:=y5 (by omega) (by omega)
  have w2:QF .i64 ((i:Int)+1-1)=(i:Int):=by rw [y5 (by omega) (by omega)]; omega
  rw [zB9,if_pos (by omega),w1,w2,za6 (ztE _ hi),zA (by rfl),q3]
 ·refine ⟨0,⟨l,a,h0,h1,hl⟩,rfl,by omega,by omega,fun β k=>?_⟩
  simp only [xa,zh8,xS,zic,xn,zdk]
  rw [zB9,if_neg (by omega)]
theorem zHU(L:Nat)(d:Dk):∃ (id:List Int) (d':Dk),d'.l=d.l∧id.length=32∧∀ (β:Type) (k:List V→List (List V)→Int→Option β),yx β L d.es d.a k=k (row .u8 id) d'.es d'.a:=by
 obtain ⟨r,d1,e1,_,_,q1⟩:=zgp L d 5 (by omega) (by omega)
 obtain ⟨s,d2,e2,_,_,q2⟩:=zgp L d1 7 (by omega) (by omega)
 refine ⟨QF .u8 r::(We 30 0++[QF .u8 s]),d2,by rw [e2,e1],by simp,fun β k=>?_⟩
 simp only [yx,zst,q1,q2,xn]
 rw [zb (by simp)]
 rfl
theorem zFB(A B r:List V)(h:A.length=r.length):yh (A++B) 0 r=r++B:=by
 unfold yh
 rw [List.take_zero,WB,Yk h,XB]
def Bk.new(s:List Int)(h:s.length=32):Bk:=⟨s,[],[],h⟩
theorem zDf(s:List Int)(h:s.length=32):SndB (Bk.new s h):=⟨TOk.nil _ _,TOk.nil _ _,fun x hx=>by cases hx⟩
def z34g:List V:=We 32 (Qa (0:Int))++[(V.gs 5 ([]:List (List V))),(V.gs 5 ([]:List (List V)))]
theorem ztW:z34g.length=34:=by simp [z34g]
theorem zEV{b:Bk}{i:Nat}(hi:i<b.H.length):∃ j:Nat,j<b.H.length∧zcK (fun x=>zB x.a b.H[i].a) b.H 0=(j:Int):=by
 refine zqL ?_
 have:=zDB (fun x:Plc=>zB x.a b.H[i].a) b.H 0
 have h2:b.H.any (fun x=>zB x.a b.H[i].a)=true:=Yj.2 ⟨b.H[i],W1 hi,ztK _⟩
 rw [h2] at this
 exact of_decide_eq_true this
end
section
set_option maxRecDepth 100000
variable {β:Type}
theorem zBO(L:Nat)(l:List Plc)(hl:l.length≤1000000)(k:List (List V)→Option β):yn β L (yC l) k=k (yC l):=by
 simp only [yn,zcA]
 have hp:=zsR l
 have hlen:=xO l
 generalize yC l=q at hp hlen
 cases q with
 | nil=>rfl
 | cons h t=>
  simp only [lc]
  rw [zb (by rw [hlen]; exact zsJ (by omega) hl),zb (.inl (by simp)),zxh hp]
theorem zEu(L:Nat)(b:Bk)(hH:b.H.length≤1000000)(hT:b.T.length≤1000000)(k:zh9 β):zQ β L b.v k=k (b.salt.getD 0 0) (b.salt.getD 1 0) (b.salt.getD 2 0) (b.salt.getD 3 0) (b.salt.getD 4 0) (b.salt.getD 5 0) (b.salt.getD 6 0) (b.salt.getD 7 0) (b.salt.getD 8 0) (b.salt.getD 9 0) (b.salt.getD 10 0) (b.salt.getD 11 0) (b.salt.getD 12 0) (b.salt.getD 13 0) (b.salt.getD 14 0) (b.salt.getD 15 0) (b.salt.getD 16 0) (b.salt.getD 17 0) (b.salt.getD 18 0) (b.salt.getD 19 0) (b.salt.getD 20 0) (b.salt.getD 21 0) (b.salt.getD 22 0) (b.salt.getD 23 0) (b.salt.getD 24 0) (b.salt.getD 25 0) (b.salt.getD 26 0) (b.salt.getD 27 0) (b.salt.getD 28 0) (b.salt.getD 29 0) (b.salt.getD 30 0) (b.salt.getD 31 0) b.H.length b.T.length (yu b.H) (yu b.T):=by
 unfold zQ zla
 rw [zb b.len,zl b 0 (by omega),zl b 1 (by omega),zl b 2 (by omega),zl b 3 (by omega),zl b 4 (by omega),zl b 5 (by omega),zl b 6 (by omega),zl b 7 (by omega),zl b 8 (by omega),zl b 9 (by omega),zl b 10 (by omega),zl b 11 (by omega),zl b 12 (by omega),zl b 13 (by omega),zl b 14 (by omega),zl b 15 (by omega),zl b 16 (by omega),zl b 17 (by omega),zl b 18 (by omega),zl b 19 (by omega),zl b 20 (by omega),zl b 21 (by omega),zl b 22 (by omega),zl b 23 (by omega),zl b 24 (by omega),zl b 25 (by omega),zl b 26 (by omega),zl b 27 (by omega),zl b 28 (by omega),zl b 29 (by omega),zl b 30 (by omega),zl b 31 (by omega)]
 have g1:∀ k:List (List V)→Option β,cL 5 b.v 32 k=k (yC b.H):=zmM b.g32
 have g2:∀ k:List (List V)→Option β,cL 5 b.v 33 k=k (yC b.T):=zmM b.g33
 rw [g1,g2,zBO L b.H hH,zBO L b.T hT,xO,xO]
 rfl
theorem zGe(L:Nat)(a b:Adr)(k:Bool→Option β):zX β L a.v b.v k=k (zB a b):=by
 simp only [zX,zni]
 rw [zA (n:=a.h) rfl,zA (n:=b.h) rfl,zdm]
 by_cases h:a.h=b.h
 ·rw [if_pos h,zA (n:=a.p) rfl,zA (n:=b.p) rfl,zB,h]
  congr 1
  simp
 ·rw [if_neg h,zB,beq_eq_false_iff_ne.2 h]; rfl
theorem zFc(L:Nat)(p:Plc)(a:Adr)(k:Bool→List V→Option β):xi β L p.v a.v k=k (zB p.a a) a.v:=by
 unfold xi zlg
 rw [zb (by show 1+3≤5; omega),zb (by show 0+3≤3; omega),p13,zeG,zGe]
theorem zvj(l:List Plc)(z:List V):(yu l++z).length=l.length*5+z.length:=by rw [Wm,zbv]
theorem zFF{l:List Plc}{i j:Nat}(hi:i<l.length)(hj:j<5)(z:List V):(yu l++z)[i*5+j]?=l[i].v[j]?:=by
 rw [Wv (by rw [zbv]; omega),zvK hi hj]
theorem zDH(l:List Plc)(i:Nat)(hi:i≤l.length)(z:List V):(yu l++z).drop (i*5)=yu (l.drop i)++z:=by
 rw [Xv (by rw [zbv]; omega)]
 congr 1
 unfold yu
 rw [zAJ (zsR l),zAS]
theorem zzX(l:List Plc)(i:Nat)(hi:i≤l.length)(z:List V):(yu l++z).take (i*5)=yu (l.take i):=by
 rw [Xw (by rw [zbv]; omega)]
 unfold yu
 rw [zyk (zsR l),zsh]
theorem zIC{l:List Plc}{i:Nat}(hi:i<l.length)(z:List V):XI 5 (XJ (i*5) (yu l++z))=l[i].v:=by
 rw [Xv (by rw [zbv]; omega),Xw (by rw [XD,zbv]; omega),zCp hi]
theorem zF0{l:List Plc}{j:Nat}(h:j<l.length)(z:List V)(k:Int→Option β):cI .u32 (yu l++z) (j*5+3) k=k l[j].a.t:=by
 refine zA ?_ k
 rw [zFF h (by omega)]; rfl
theorem zH4{l:List Plc}{j:Nat}(h:j<l.length)(z:List V)(k:Int→Option β):cI .i64 (yu l++z) (j*5+0) k=k l[j].b:=by
 refine zA ?_ k
 rw [zFF h (by omega)]; rfl
theorem zAA:∀ (l:List Plc) (z:List V),xh 5 l.length (yu l++z)=yC l
 | [],z=>rfl
 | x::l,z=>by
  have e:yu (x::l)++z=x.v++(yu l++z):=by simp [yu,yC]
  rw [e,Ya,xh]
  have h:=zAA l z
  show x.v::xh 5 l.length (yu l++z)=yC (x::l)
  rw [h]; rfl
theorem fl1(p:Plc):XK (xh 5 1 p.v)=p.v:=rfl
theorem zFg(L:Nat)(ps:List Plc)(hp:ps.length≤1000000)(z:List V)(a:Adr)(kr:Int→List V→List V→Option β)(kx:List V→List V→Option β)(k:Int→List V→List V→Option β)(hr:∀ i b c,kr i b c=k i b c)(hx:∀ b c,kx b c=k (-1) b c):∀ (m i:Nat),i≤ps.length→ps.length-i<m →
  y4 xi L kr kx m ps.length ((ps.length:Nat):Int) (i:Int) (yu ps++z) a.v=k (zcK (fun e=>zB e.a a) (ps.drop i) i) (yu ps++z) a.v:=by
 intro m
 induction m with
 | zero=>intro i h1 h2; omega
 | succ m IH=>
  intro i h1 h2
  unfold y4 zbt
  by_cases h:i<ps.length
  ·have ih:=IH (i+1) (by omega) (by omega)
   rw [zac (by omega),zb (by omega),at0,zb (by rw [zvj]; omega),zIC h,zFc,zb rfl,WP h,zcK,xn,zS (by omega)]
   cases zB ps[i].a a with
   | true=>exact hr _ _ _
   | false=>exact ih
  ·rw [z9 (by omega),WI (by omega),hx]; rfl
theorem zHb(L:Nat)(ps:List Plc)(hp:ps.length≤1000000)(hL:ps.length<L)(z:List V)(a:Adr)(k:Int→List V→List V→Option β):ym β L ps.length (yu ps++z) a.v k=k (zcK (fun e=>zB e.a a) ps 0) (yu ps++z) a.v:=by
 unfold ym zaM zbW
 rw [show ((0:Int))=((0:Nat):Int) from rfl]
 exact zFg L ps hp z a _ _ k (fun _ _ _=>rfl) (fun _ _=>rfl) L 0 (by omega) (by omega)
theorem zBK(L:Nat)(ps:List Plc)(hp:ps.length≤1000000)(hL:ps.length<L)(a:Adr)(k:Int→List V→Option β):yT β L ps.length a.v (yu ps) k=k (zcK (fun e=>zB e.a a) ps 0) (yu ps):=by
 unfold yT znF
 have h:=fun (k:Int→List V→List V→Option β)=>zHb L ps hp hL [] a k
 simp only [Yb] at h
 rw [h,zb rfl]
theorem zHC(L:Nat)(l:List Plc)(hl:l.length≤1000000)(z:List V)(v:Int)(kx:Nat→Int→Int→List V→Option β):∀ (m i:Nat),i≤l.length→l.length-i<m →
  zdl L kx m l.length v (i:Int) (yu l++z)=kx l.length v ((i+((l.drop i).takeWhile (fun x=>decide (x.b<v))).length:Nat):Int) (yu l++z):=by
 intro m
 induction m with
 | zero=>intro i h1 h2; omega
 | succ m IH=>
  intro i h1 h2
  unfold zdl zhJ
  by_cases h:i<l.length
  ·have ih:=IH (i+1) (by omega) (by omega)
   have e0:0+XH (i:Int)*5+0=i*5+0:=by rw [X8]; omega
   rw [zac (by omega),zb (by omega),e0,zH4 h,WP h,X9,zax,xn,zS (by omega)]
   by_cases hb:l[i].b<v
   ·rw [if_pos hb,if_pos (by simpa using hb),Ya]
    refine ih.trans ?_
    congr 2; omega
   ·rw [if_neg hb,if_neg (by simpa using hb)]; rfl
  ·rw [z9 (by omega),WI (by omega)]; rfl
theorem zIP(L:Nat)(l:List Plc)(hl:l.length≤1000000)(z:List V)(v f:Int)(kx:Int→Int→List V→Option β):∀ (m i:Nat),i≤l.length→l.length-i<m →
  zcP L kx m l.length v f (i:Int) (yu l++z)=kx f ((i+((l.drop i).takeWhile (fun x=>x.b==v)).length:Nat):Int) (yu l++z):=by
 intro m
 induction m with
 | zero=>intro i h1 h2; omega
 | succ m IH=>
  intro i h1 h2
  unfold zcP zgi
  by_cases h:i<l.length
  ·have ih:=IH (i+1) (by omega) (by omega)
   have e0:0+XH (i:Int)*5+0=i*5+0:=by rw [X8]; omega
   rw [zac (by omega),zb (by omega),e0,zH4 h,WP h,X9,zdm,xn,zS (by omega)]
   by_cases hb:l[i].b=v
   ·rw [if_pos hb,if_pos (by simpa using hb),Ya]
    refine ih.trans ?_
    congr 2; omega
   ·rw [if_neg hb,if_neg (by simpa using hb)]; rfl
  ·rw [z9 (by omega),WI (by omega)]; rfl
theorem zEd(L:Nat)(l:List Plc)(hl:l.length≤1000000)(hL:l.length<L)(z:List V)(v:Int)(k:Int→Int→List V→Option β):zk β L l.length v (yu l++z) k=k ((xC l v:Nat):Int) ((toN l v:Nat):Int) (yu l++z):=by
 unfold zk zhr zk7
 rw [show ((0:Int))=((0:Nat):Int) from rfl]
 refine (zHC L l hl z v _ L 0 (by omega) (by omega)).trans ?_
 have hf:=zm8 l v
 have e:0+((l.drop 0).takeWhile (fun x=>decide (x.b<v))).length=xC l v:=by rw [XU,WB]; rfl
 rw [e]
 unfold zdG zf9
 refine (zIP L l hl z v _ _ L (xC l v) (by omega) (by omega)).trans ?_
 rfl
theorem zDE(L:Nat)(l:List Plc)(hl:l.length≤1000000)(z:List V)(i:Nat)(hi:i≤l.length)(p:Plc)(k:List (List V)→Nat→List V→Option β):xb β L l.length (i:Int) 1 (yu l++z) p.v k=k (yC (l.take i++[p]++l.drop i)) (yu l++z).length p.v:=by
 have hlen:(l.take i++[p]++l.drop i).length=l.length+1:=by simp; omega
 have e:zoA 5 l.length 1 i (yu l++z) p.v=yC (l.take i++[p]++l.drop i):=by
  unfold zoA
  rw [zzX l i hi,zzX l l.length (Wq _),Xu (Wq _)]
  have h2:=zDH l i hi []
  rw [Yb,Yb] at h2
  rw [h2]
  have h1:p.v=yu [p]:=by simp [yu,yC]
  rw [h1,← zmE,← zmE]
  exact zrw hlen.symm
 unfold xb
 rw [zb ⟨by omega,by omega,by omega,by rw [zvj]; omega,rfl,(zsJ hl (by omega)).1,(zsJ hl (by omega)).2⟩,X8,e]
theorem zHt(L:Nat)(l:List Plc)(hl:l.length≤1000000)(z:List V)(i:Nat)(hi:i<l.length):∃ z':List V,z'.length=z.length+5∧∀ (β:Type) (k:Nat→List V→Option β),yc β L l.length (i:Int) ((i+1:Nat):Int) (yu l++z) k=k (za3 l i).length (yu (za3 l i)++z'):=by
 have hrl:(za3 l i).length=l.length-1:=by unfold za3; simp; omega
 have hd:XJ (0+(i+1)*5) (yu l++z)=yu (l.drop (i+1))++z:=by rw [WB]; exact zDH l (i+1) (by omega) z
 have hcl:(l.drop (i+1)).length=l.length-(i+1):=by simp
 have hch:xh 5 (l.length-(i+1)) (XJ (0+(i+1)*5) (yu l++z))=yC (l.drop (i+1)):=by rw [hd,← hcl]; exact zAA _ z
 obtain ⟨w,hw⟩:∃ w,w=XJ (i*5+(yu (l.drop (i+1))).length) (yu l++z):=⟨_,rfl⟩
 have hr2:yh (yu l++z) (i*5) (XK (yC (l.drop (i+1))))=yu (za3 l i)++w:=by
  unfold yh za3
  rw [zzX l i (by omega),zmE]
  show yu (l.take i)++yu (l.drop (i+1))++XJ (i*5+(yu (l.drop (i+1))).length) (yu l++z)=_
  rw [← hw]
 have hwl:w.length=z.length+5:=by
  rw [hw,XD,zvj,zbv,hcl]; omega
 have hend:i+(l.length-(i+1))=l.length-1:=by omega
 refine ⟨XK (We 1 [(V.sc (.int .i64 (0:Int))),(V.sc (.int .u32 (0:Int))),(V.sc (.int .u16 (0:Int))),(V.sc (.int .u32 (0:Int))),(V.sc (.int .u32 (0:Int)))])++w.drop 5,by simp [hwl],fun β k=>?_⟩
 have hr3:yh (yu (za3 l i)++w) (0+(l.length-1)*5) (XK (We 1 [(V.sc (.int .i64 (0:Int))),(V.sc (.int .u32 (0:Int))),(V.sc (.int .u16 (0:Int))),(V.sc (.int .u32 (0:Int))),(V.sc (.int .u32 (0:Int)))]))=yu (za3 l i)++(XK (We 1 [(V.sc (.int .i64 (0:Int))),(V.sc (.int .u32 (0:Int))),(V.sc (.int .u16 (0:Int))),(V.sc (.int .u32 (0:Int))),(V.sc (.int .u32 (0:Int)))])++w.drop 5):=by
  have hl5:(yu (za3 l i)).length=(l.length-1)*5:=by rw [zbv,hrl]
  unfold yh
  rw [WB,Xw (by omega),Xu (by omega),Yi,WI (by omega),XB,hl5,List.append_assoc]
  congr 3
  simp
 unfold yc zco
 simp only [X8,hch,xO,hcl,hend,xn,hr2]
 rw [zb (by omega),zb (by omega),zb (by omega),z9 (by omega),zdm,if_neg (by omega),zb (by omega),zb (by omega),zb (by omega),zb (by omega),zb (by omega),show l.length-(l.length-1)=1 by omega,hr3,hrl]
end
section
set_option maxRecDepth 100000
variable {β:Type}
def zgH(s:List Int)(H:List Plc)(a:Adr)(src:Int):List Plc × Bool:=
 if toN H (hbk s a src)-xC H (hbk s a src)≥8 then
  (if zs9 H (zda H (toN H (hbk s a src)-xC H (hbk s a src)) (xC H (hbk s a src)) (xC H (hbk s a src)))≥a.t then (H,false)
   else (zgh (za3 H (zda H (toN H (hbk s a src)-xC H (hbk s a src)) (xC H (hbk s a src)) (xC H (hbk s a src)))) ⟨hbk s a src,a,src⟩,true))
 else (zgh H ⟨hbk s a src,a,src⟩,true)
theorem zxp(b:Bk)(a:Adr)(src:Int)(h1:¬ zcK (fun x=>zB x.a a) b.T 0≥0)(h2:¬ zcK (fun x=>zB x.a a) b.H 0≥0):zdz b a src=(⟨b.salt,(zgH b.salt b.H a src).1,b.T,b.hs⟩,(zgH b.salt b.H a src).2):=by
 unfold zdz zgH
 rw [if_neg h1,if_neg h2]
 split
 ·split <;> rfl
 ·rfl
theorem zEB(A B C:List Plc){j:Nat}(hj:j<B.length):za3 (A++(B++C)) (A.length+j)=A++(za3 B j++C):=by
 unfold za3
 rw [List.take_append,Xu (by omega),show A.length+j-A.length=j by omega,Xw (by omega)]
 rw [show A.length+j+1=A.length+(j+1) by omega,Yi,WI (by omega),XB,show A.length+(j+1)-A.length=j+1 by omega,Xv (by omega)]
 simp
theorem zIc{l:List Plc}{v:Int}(h:Srt l){m:Nat}(h1:xC l v≤m)(h2:m<toN l v):toN (za3 l m) v=toN l v-1:=by
 obtain ⟨A,B,C,rfl,hA,hB,hC⟩:=h.split3 v
 rw [zqs hA hB hC] at h1
 rw [zoq hA hB hC] at h2
 obtain ⟨j,rfl⟩:∃ j,m=A.length+j:=⟨m-A.length,by omega⟩
 have hj:j<B.length:=by omega
 have hBl:(za3 B j).length=B.length-1:=by unfold za3; simp; omega
 rw [zEB A B C hj,zoq hA hB hC,zoq hA (fun x hx=>hB x ((zdI B j).subset hx)) hC,hBl]
 omega
theorem zH9(l:List Plc)(n i:Nat):zda l (n+1) i i=zda l n (i+1) i:=by
 rw [zda]
 congr 1
 split <;> rfl
theorem zE2(L:Nat)(b:Bk)(hH:b.H.length≤1000000)(z:Nat)(hz:z≤b.H.length)(zs b1 p:List V)(src v:Int)(tl:Nat)(kx:zj1 β):∀ (m i c:Nat),i≤z→z-i<m→c<b.H.length →
  zb1 ze zk xb yc L kx m src v (z:Int) (c:Int) (i:Int) (yu b.H++zs) b1 (b.salt.getD 0 0) (b.salt.getD 1 0) (b.salt.getD 2 0) (b.salt.getD 3 0) (b.salt.getD 4 0) (b.salt.getD 5 0) (b.salt.getD 6 0) (b.salt.getD 7 0) (b.salt.getD 8 0) (b.salt.getD 9 0) (b.salt.getD 10 0) (b.salt.getD 11 0) (b.salt.getD 12 0) (b.salt.getD 13 0) (b.salt.getD 14 0) (b.salt.getD 15 0) (b.salt.getD 16 0) (b.salt.getD 17 0) (b.salt.getD 18 0) (b.salt.getD 19 0) (b.salt.getD 20 0) (b.salt.getD 21 0) (b.salt.getD 22 0) (b.salt.getD 23 0) (b.salt.getD 24 0) (b.salt.getD 25 0) (b.salt.getD 26 0) (b.salt.getD 27 0) (b.salt.getD 28 0) (b.salt.getD 29 0) (b.salt.getD 30 0) (b.salt.getD 31 0) b.H.length tl p 0 0 0 0 0 0 0 0 0 0 0 0 0 0 0 0 0 0 0 0 0 0 0 0 0 0 0 0 0 0 0 0 [] []
   = kx src v (z:Int) ((zda b.H (z-i) i c:Nat):Int) (yu b.H++zs) b1 (b.salt.getD 0 0) (b.salt.getD 1 0) (b.salt.getD 2 0) (b.salt.getD 3 0) (b.salt.getD 4 0) (b.salt.getD 5 0) (b.salt.getD 6 0) (b.salt.getD 7 0) (b.salt.getD 8 0) (b.salt.getD 9 0) (b.salt.getD 10 0) (b.salt.getD 11 0) (b.salt.getD 12 0) (b.salt.getD 13 0) (b.salt.getD 14 0) (b.salt.getD 15 0) (b.salt.getD 16 0) (b.salt.getD 17 0) (b.salt.getD 18 0) (b.salt.getD 19 0) (b.salt.getD 20 0) (b.salt.getD 21 0) (b.salt.getD 22 0) (b.salt.getD 23 0) (b.salt.getD 24 0) (b.salt.getD 25 0) (b.salt.getD 26 0) (b.salt.getD 27 0) (b.salt.getD 28 0) (b.salt.getD 29 0) (b.salt.getD 30 0) (b.salt.getD 31 0) b.H.length tl p 0 0 0 0 0 0 0 0 0 0 0 0 0 0 0 0 0 0 0 0 0 0 0 0 0 0 0 0 0 0 0 0 [] []:=by
 intro m
 induction m with
 | zero=>intro i c h1 h2 h3; omega
 | succ m IH=>
  intro i c h1 h2 h3
  unfold zb1 ze3
  by_cases h:i<z
  ·have hi:i<b.H.length:=by omega
   rw [zac (by omega),zb (by omega),at3,zF0 hi,zb (by omega),at3,zF0 h3,zax,show z-i=(z-(i+1))+1 by omega,zda,zmI hi,zmI h3]
   by_cases ht:b.H[i].a.t<b.H[c].a.t
   ·rw [if_pos ht,if_pos ht,xn,zS (by omega)]
    exact IH (i+1) i (by omega) (by omega) hi
   ·rw [if_neg ht,if_neg ht,xn,zS (by omega)]
    exact IH (i+1) c (by omega) (by omega) h3
  ·rw [z9 (by omega),show z-i=0 by omega]; rfl
theorem zGg(L:Nat)(hL:200000<L)(b:Bk)(hs:Srt b.H)(hH:b.H.length≤100000)(z b1:List V)(tl:Nat)(a:Adr)(src:Int)(k:zc1 β)(k1:zeQ β) :
  xR β (L+100) (b.salt.getD 0 0) (b.salt.getD 1 0) (b.salt.getD 2 0) (b.salt.getD 3 0) (b.salt.getD 4 0) (b.salt.getD 5 0) (b.salt.getD 6 0) (b.salt.getD 7 0) (b.salt.getD 8 0) (b.salt.getD 9 0) (b.salt.getD 10 0) (b.salt.getD 11 0) (b.salt.getD 12 0) (b.salt.getD 13 0) (b.salt.getD 14 0) (b.salt.getD 15 0) (b.salt.getD 16 0) (b.salt.getD 17 0) (b.salt.getD 18 0) (b.salt.getD 19 0) (b.salt.getD 20 0) (b.salt.getD 21 0) (b.salt.getD 22 0) (b.salt.getD 23 0) (b.salt.getD 24 0) (b.salt.getD 25 0) (b.salt.getD 26 0) (b.salt.getD 27 0) (b.salt.getD 28 0) (b.salt.getD 29 0) (b.salt.getD 30 0) (b.salt.getD 31 0) b.H.length tl a.v src (yu b.H++z) b1 k k1=if (zgH b.salt b.H a src).2=true then k (b.salt.getD 0 0) (b.salt.getD 1 0) (b.salt.getD 2 0) (b.salt.getD 3 0) (b.salt.getD 4 0) (b.salt.getD 5 0) (b.salt.getD 6 0) (b.salt.getD 7 0) (b.salt.getD 8 0) (b.salt.getD 9 0) (b.salt.getD 10 0) (b.salt.getD 11 0) (b.salt.getD 12 0) (b.salt.getD 13 0) (b.salt.getD 14 0) (b.salt.getD 15 0) (b.salt.getD 16 0) (b.salt.getD 17 0) (b.salt.getD 18 0) (b.salt.getD 19 0) (b.salt.getD 20 0) (b.salt.getD 21 0) (b.salt.getD 22 0) (b.salt.getD 23 0) (b.salt.getD 24 0) (b.salt.getD 25 0) (b.salt.getD 26 0) (b.salt.getD 27 0) (b.salt.getD 28 0) (b.salt.getD 29 0) (b.salt.getD 30 0) (b.salt.getD 31 0) (zgH b.salt b.H a src).1.length tl true (yu b.H++z).length b1 (yu (zgH b.salt b.H a src).1) else k1 (b.salt.getD 0 0) (b.salt.getD 1 0) (b.salt.getD 2 0) (b.salt.getD 3 0) (b.salt.getD 4 0) (b.salt.getD 5 0) (b.salt.getD 6 0) (b.salt.getD 7 0) (b.salt.getD 8 0) (b.salt.getD 9 0) (b.salt.getD 10 0) (b.salt.getD 11 0) (b.salt.getD 12 0) (b.salt.getD 13 0) (b.salt.getD 14 0) (b.salt.getD 15 0) (b.salt.getD 16 0) (b.salt.getD 17 0) (b.salt.getD 18 0) (b.salt.getD 19 0) (b.salt.getD 20 0) (b.salt.getD 21 0) (b.salt.getD 22 0) (b.salt.getD 23 0) (b.salt.getD 24 0) (b.salt.getD 25 0) (b.salt.getD 26 0) (b.salt.getD 27 0) (b.salt.getD 28 0) (b.salt.getD 29 0) (b.salt.getD 30 0) (b.salt.getD 31 0) b.H.length tl false (yu b.H++z) b1:=by
 unfold xR ziE zl7
 rw [zb (by show 0+3≤3; omega),zeG,b.cells,zGZ L b.salt b.hs]
 unfold zgH
 generalize hbk b.salt a src=v
 have hr:=zm8 b.H v
 rw [zEd _ b.H (by omega) (by omega),zb rfl,xn,y5 (by omega) (by omega),zax]
 by_cases h8:toN b.H v-xC b.H v≥8
 ·obtain ⟨n,hn⟩:∃ n,toN b.H v-xC b.H v=n+1:=⟨toN b.H v-xC b.H v-1,by omega⟩
  rw [if_pos (by omega),if_pos h8,xn,zS (by omega)]
  refine (zE2 (L+100) b (by omega) (toN b.H v) hr.2 z b1 a.v src v tl _ (L+100) (xC b.H v+1) (xC b.H v) (by omega) (by omega) (by omega)).trans ?_
  have hm:=zhK b.H (xC b.H v) (toN b.H v) (toN b.H v-xC b.H v) (xC b.H v) (xC b.H v) (Wq _) (by omega) (Wq _) (by omega)
  have he:zda b.H (toN b.H v-(xC b.H v+1)) (xC b.H v+1) (xC b.H v)=zda b.H (toN b.H v-xC b.H v) (xC b.H v) (xC b.H v):=by
   rw [hn,zH9]; congr 1; omega
  rw [he]
  generalize zda b.H (toN b.H v-xC b.H v) (xC b.H v) (xC b.H v)=m at hm ⊢
  have hml:m<b.H.length:=by omega
  unfold zed
  rw [zb (by omega),at3,zF0 hml,zA (n:=a.t) rfl,zax,zmI hml]
  by_cases ht:b.H[m].a.t≥a.t
  ·rw [if_pos ht,if_pos ht,if_neg (by simp)]
  ·obtain ⟨z',hz',hdel⟩:=zHt (L+100) b.H (by omega) z m hml
   have hrl:(za3 b.H m).length=b.H.length-1:=by unfold za3; simp; omega
   have htr:=zIc hs hm.1 hm.2
   have hle:toN (za3 b.H m) v≤(za3 b.H m).length:=(zm8 _ v).2
   have hlen:(yu (za3 b.H m)++z').length=(yu b.H++z).length:=by rw [zvj,zvj,hz',hrl]; omega
   rw [if_neg ht,if_neg ht,if_pos rfl,xn,zS (by omega),hdel,hlen,zb rfl,xn,show QF .i64 ((toN b.H v:Int)-1)=((toN b.H v-1:Nat):Int) by rw [y5 (by omega) (by omega)]; omega,zb (by show 0+3≤3; omega),zeG,zb ⟨rfl,by omega⟩,zb (by show 1=1∧4+1≤5; omega),zb ⟨rfl,by omega⟩,zGL,fl1,← htr,zDE _ _ (by omega) z' _ hle,hlen,zb rfl,xO]
   rfl
 ·rw [if_neg (by omega),if_neg h8,if_pos rfl,zb (by show 0+3≤3; omega),zb ⟨rfl,by omega⟩,zb (by show 1=1∧4+1≤5; omega),zb ⟨rfl,by omega⟩,zGL,fl1,zDE _ _ (by omega) z _ hr.2,zb rfl,xO]
  rfl
end
section
set_option maxRecDepth 100000
variable {β:Type}
theorem Bk.vv(b:Bk):[V.sc (.int .u8 (b.salt.getD 0 0)),V.sc (.int .u8 (b.salt.getD 1 0)),V.sc (.int .u8 (b.salt.getD 2 0)),V.sc (.int .u8 (b.salt.getD 3 0)),V.sc (.int .u8 (b.salt.getD 4 0)),V.sc (.int .u8 (b.salt.getD 5 0)),V.sc (.int .u8 (b.salt.getD 6 0)),V.sc (.int .u8 (b.salt.getD 7 0)),V.sc (.int .u8 (b.salt.getD 8 0)),V.sc (.int .u8 (b.salt.getD 9 0)),V.sc (.int .u8 (b.salt.getD 10 0)),V.sc (.int .u8 (b.salt.getD 11 0)),V.sc (.int .u8 (b.salt.getD 12 0)),V.sc (.int .u8 (b.salt.getD 13 0)),V.sc (.int .u8 (b.salt.getD 14 0)),V.sc (.int .u8 (b.salt.getD 15 0)),V.sc (.int .u8 (b.salt.getD 16 0)),V.sc (.int .u8 (b.salt.getD 17 0)),V.sc (.int .u8 (b.salt.getD 18 0)),V.sc (.int .u8 (b.salt.getD 19 0)),V.sc (.int .u8 (b.salt.getD 20 0)),V.sc (.int .u8 (b.salt.getD 21 0)),V.sc (.int .u8 (b.salt.getD 22 0)),V.sc (.int .u8 (b.salt.getD 23 0)),V.sc (.int .u8 (b.salt.getD 24 0)),V.sc (.int .u8 (b.salt.getD 25 0)),V.sc (.int .u8 (b.salt.getD 26 0)),V.sc (.int .u8 (b.salt.getD 27 0)),V.sc (.int .u8 (b.salt.getD 28 0)),V.sc (.int .u8 (b.salt.getD 29 0)),V.sc (.int .u8 (b.salt.getD 30 0)),V.sc (.int .u8 (b.salt.getD 31 0)),(V.sl 5 (yC b.H)),(V.sl 5 (yC b.T))]=b.v:=by rw [b.mk_v]; rfl
theorem Bk.vx(b:Bk)(H T:List Plc):[V.sc (.int .u8 (b.salt.getD 0 0)),V.sc (.int .u8 (b.salt.getD 1 0)),V.sc (.int .u8 (b.salt.getD 2 0)),V.sc (.int .u8 (b.salt.getD 3 0)),V.sc (.int .u8 (b.salt.getD 4 0)),V.sc (.int .u8 (b.salt.getD 5 0)),V.sc (.int .u8 (b.salt.getD 6 0)),V.sc (.int .u8 (b.salt.getD 7 0)),V.sc (.int .u8 (b.salt.getD 8 0)),V.sc (.int .u8 (b.salt.getD 9 0)),V.sc (.int .u8 (b.salt.getD 10 0)),V.sc (.int .u8 (b.salt.getD 11 0)),V.sc (.int .u8 (b.salt.getD 12 0)),V.sc (.int .u8 (b.salt.getD 13 0)),V.sc (.int .u8 (b.salt.getD 14 0)),V.sc (.int .u8 (b.salt.getD 15 0)),V.sc (.int .u8 (b.salt.getD 16 0)),V.sc (.int .u8 (b.salt.getD 17 0)),V.sc (.int .u8 (b.salt.getD 18 0)),V.sc (.int .u8 (b.salt.getD 19 0)),V.sc (.int .u8 (b.salt.getD 20 0)),V.sc (.int .u8 (b.salt.getD 21 0)),V.sc (.int .u8 (b.salt.getD 22 0)),V.sc (.int .u8 (b.salt.getD 23 0)),V.sc (.int .u8 (b.salt.getD 24 0)),V.sc (.int .u8 (b.salt.getD 25 0)),V.sc (.int .u8 (b.salt.getD 26 0)),V.sc (.int .u8 (b.salt.getD 27 0)),V.sc (.int .u8 (b.salt.getD 28 0)),V.sc (.int .u8 (b.salt.getD 29 0)),V.sc (.int .u8 (b.salt.getD 30 0)),V.sc (.int .u8 (b.salt.getD 31 0)),(V.sl 5 (yC H)),(V.sl 5 (yC T))]=(⟨b.salt,H,T,b.hs⟩:Bk).v:=by rw [b.mk_v]; rfl
theorem Bk.c32(b:Bk)(k:List (List V)→Option β):cL 5 b.v 32 k=k (yC b.H):=zmM b.g32 k
theorem Bk.c33(b:Bk)(k:List (List V)→Option β):cL 5 b.v 33 k=k (yC b.T):=zmM b.g33 k
theorem zDi{n:Nat}{l:List Plc}{j:Nat}{t:Int}(h:n=l.length):xh 5 n (yu (zrq l j t))=yC (zrq l j t):=zrw (by rw [zxJ]; exact h)
theorem zvs(L:Nat)(hL:200000<L)(b:Bk)(hH:b.H.length≤1000)(hT:b.T.length≤1000)(a:Adr)(src:Int)(k:List V→Bool→Int→Option β) :
  yg β (L+100) b.v a.v src k=if zkP b=true then k (zdz b a src).1.v (zdz b a src).2 0 else k bk0.v false 6:=by
 unfold yg zmk
 rw [zb b.len,zl b 0 (by omega),zl b 1 (by omega),zl b 2 (by omega),zl b 3 (by omega),zl b 4 (by omega),zl b 5 (by omega),zl b 6 (by omega),zl b 7 (by omega),zl b 8 (by omega),zl b 9 (by omega),zl b 10 (by omega),zl b 11 (by omega),zl b 12 (by omega),zl b 13 (by omega),zl b 14 (by omega),zl b 15 (by omega),zl b 16 (by omega),zl b 17 (by omega),zl b 18 (by omega),zl b 19 (by omega),zl b 20 (by omega),zl b 21 (by omega),zl b 22 (by omega),zl b 23 (by omega),zl b 24 (by omega),zl b 25 (by omega),zl b 26 (by omega),zl b 27 (by omega),zl b 28 (by omega),zl b 29 (by omega),zl b 30 (by omega),zl b 31 (by omega),b.c32,b.c33,b.vv,zEO L b (by omega) (by omega) (by omega),zCG]
 cases hS:zkP b with
 | false=>
  rw [Yg,zgY,if_neg (by simp),zG4]
 | true=>
  have hs:=(zfw b).1 hS
  rw [Xg,zb6,if_pos rfl,zEu _ b (by omega) (by omega),zb (by show 0+3≤3; omega),zeG,zBK _ b.T (by omega) (by omega),zb rfl,zax]
  by_cases h:zcK (fun x=>zB x.a a) b.T 0≥0
  ·obtain ⟨j,hj,e⟩:=zqL h
   unfold zdz
   rw [if_pos h,if_pos h,e,zb (by omega),at3,cT hj,zA (n:=a.t) rfl,xn,zb (by omega),zb ⟨rfl,by rw [zbv]; omega⟩,xn,zrV hj,zef,zDi rfl,b.vx,X8]
  ·rw [if_neg h,zb (by show 0+3≤3; omega),zBK _ b.H (by omega) (by omega),zb rfl,zax]
   by_cases h':zcK (fun x=>zB x.a a) b.H 0≥0
   ·obtain ⟨j,hj,e⟩:=zqL h'
    unfold zdz
    rw [if_pos h',if_neg h,if_pos h',e,zb (by omega),at3,cT hj,zA (n:=a.t) rfl,xn,zb (by omega),zb ⟨rfl,by rw [zbv]; omega⟩,xn,zrV hj,zef,zDi rfl,b.vx,X8]
   ·have hl:=fun (k:zc1 β) k1=>zGg L hL b hs.h.s (by omega) [] (yu b.T) b.T.length a src k k1
    simp only [Yb] at hl
    rw [if_neg h',zb (by show 0+3≤3; omega),hl,zxp b a src h h']
    cases hr:(zgH b.salt b.H a src).2 with
    | true=>rw [if_pos rfl,zb rfl,zef,zef,b.vx]
    | false=>
     have e1:(zgH b.salt b.H a src).1=b.H:=by
      unfold zgH at hr ⊢
      split at hr
      ·split at hr
       ·rename_i c1 c2; rw [if_pos c1,if_pos c2]
       ·cases hr
      ·cases hr
     rw [if_neg (by simp),zb rfl,zef,zef,b.vx,e1]
theorem eqP(p:Plc)(k:Bool→Option β):eqC 5 p.v p.v k=k true:=by
 unfold eqC Plc.v
 rw [zb ⟨rfl,rfl⟩]
 simp [zgo]
theorem zII(L:Nat)(hL:200000<L)(k:Bool→Option β):xd β (L+100) k=k true:=by
 have h0:zkP bk0=true:=(zfw bk0).2 (zDf (We 32 0) (by simp))
 have e0:zdz bk0 ⟨327680,8,3⟩ 7=(⟨We 32 0,[⟨hbk (We 32 0) ⟨327680,8,3⟩ 7,⟨327680,8,3⟩,7⟩],[],by rfl⟩,true):=rfl
 have h1:SndB (zdz bk0 ⟨327680,8,3⟩ 7).1:=zrY ((zfw bk0).1 h0) _ _
 rw [e0] at h1
 have e1:∀ v:Int,zdz ⟨We 32 0,[⟨v,⟨327680,8,3⟩,7⟩],[],by rfl⟩ ⟨327680,8,9⟩ 8=(⟨We 32 0,[⟨v,⟨327680,8,9⟩,7⟩],[],by rfl⟩,false):=fun v=>rfl
 unfold xd zq1
 have ea:∀ t:Int,[(Qc (327680:Int)),(Qb (8:Int)),(Qc t)]=(⟨327680,8,t⟩:Adr).v:=fun t=>rfl
 have es:yh (⟨327680,8,3⟩:Adr).v 2 [(Qc (9:Int))]=(⟨327680,8,9⟩:Adr).v:=rfl
 generalize hbk (We 32 0) ⟨327680,8,3⟩ 7=v at e0 h1
 rw [xn,ea,zb (by show 0+3≤3; omega),zeG,zG4,zvs L hL bk0 (by simp [bk0]) (by simp [bk0]),if_pos h0,e0,zb ⟨Bk.len _,by omega⟩,z34 _ (by simp),xn,zb (by show 1=1∧2+1≤3; omega),xn,es,zb (by rw [Bk.len]; omega),zb (by show 0+3≤3; omega),Bk.take,Bk.dem,zeG,zvs L hL _ (by simp) (by simp),if_pos ((zfw _).2 h1),e1,zb ⟨Bk.len _,by omega⟩,z34 _ (by simp),xn,zdm,if_pos rfl,zdm,if_pos rfl,zgY,Yg,zgY,zbi (Bk.g32 _)]
 rw [zbi (Bk.g32 _)]
 rw [show ((((yC [(⟨v,⟨327680,8,9⟩,7⟩:Plc)]).length:Nat):Int)==1)=true from rfl,zgY,zxR (j:=0) (c:=(⟨v,⟨327680,8,9⟩,7⟩:Plc).v) (by decide) rfl,zA (n:=9) rfl,zdm,if_pos rfl,zbi (Bk.g32 _),zxR (j:=0) (c:=(⟨v,⟨327680,8,9⟩,7⟩:Plc).v) (by decide) rfl,zA (n:=7) rfl,zdm,if_pos rfl,zb (by show 0+3≤3; omega),zye]
 rfl
end
section
set_option maxRecDepth 100000
variable {β:Type}
theorem zH5(L:Nat)(es:List (List V))(k:List (List V)→Int→Option β):xf β L es k=k es 0:=by
 simp only [xf,zuo,xn]
end
section
theorem zDy:∀ (vs:List Int) (l:List Plc),(∀ e∈l,e.b∈vs)→(∀ v,zav v l≤8)→l.length≤8*vs.length
 | [],l,h,_=>by
  cases l with
  | nil=>simp
  | cons e l=>exact absurd (h e (by simp)) (by simp)
 | v::vs,l,h,hc=>by
  have ih:=zDy vs (l.filter (fun x=>!(x.b==v))) (fun e he=>by
   have h1:=QY.1 he
   rcases Q7.1 (h e h1.1) with h2 | h2
   ·have h3:=h1.2; simp [h2] at h3
   ·exact h2) (fun w=>QD (zkN Yf w) (hc w))
  have hlen:l.length=zav v l+(l.filter (fun x=>!(x.b==v))).length:=by
   unfold zav
   clear ih hc h
   induction l with
   | nil=>rfl
   | cons x l ihl=>
    by_cases hx:x.b=v
    ·simp [hx]; omega
    ·simp [hx]; omega
  have:=hc v
  simp only [Ya]
  omega
def img(s:List Int)(m2:Int→List Int):List Int:=[0,1,2,3].map fun x=>QF .i64 (XM (zjO (zws s) (zvT s) (m2 x)) 64)
theorem zHj(s m1:List Int)(m2:Int→List Int):bkt s m1 m2∈img s m2:=by
 have h0:0≤zjO (zws s) (zvT s) m1:=by unfold zjO zB7 zyS zaR; exact (zzh _).1
 have h1:=Int.tmod_nonneg 4 h0
 have h2:=Int.tmod_lt_of_pos (zjO (zws s) (zvT s) m1) (show (0:Int)<4 by decide)
 unfold bkt
 generalize XM (zjO (zws s) (zvT s) m1) 4=x at h1 h2
 rw [ziA h1 (by omega)]
 unfold img
 have:x=0∨x=1∨x=2∨x=3:=by omega
 rcases this with rfl | rfl | rfl | rfl <;> simp
theorem zDe(s:List Int)(a:Adr)(src:Int):hbk s a src∈img s (fun x=>[1]++le4 (w64 src)++le4 (w64 x)):=by
 unfold hbk; exact zHj _ _ _
def zI0(g:Int):List Plc→Nat
 | []=>0
 | e::l=>(if grp e.a=g then 1 else 0)+zI0 g l
def zDM(src:Int)(l:List Plc):Nat:=(l.filter (fun e=>e.s==src)).length
theorem zHZ{b:Bk}(h:SndB b)(src:Int):zDM src b.H≤32:=by
 refine zDy (img b.salt (fun x=>[1]++le4 (w64 src)++le4 (w64 x))) _ (fun e he=>?_) (fun v=>QD (zkN Yf v) (h.h.c v))
 have h1:=QY.1 he
 rw [h.h.b e h1.1]
 have hs:e.s=src:=by simpa using h1.2
 unfold hbf
 rw [hs]
 exact zDe _ _ _
theorem zCx:∀ (l m:List Int),l.Nodup→(∀ x∈l,x∈m)→l.length≤m.length
 | [],m,_,_=>by simp
 | x::l,m,hn,h=>by
  have hn':=List.nodup_cons.1 hn
  have hx:x∈m:=h x (by simp)
  have:=zCx l (m.erase x) hn'.2 (fun y hy=>by
   have hne:y≠x:=by rintro rfl; exact hn'.1 hy
   exact (List.mem_erase_of_ne hne).2 (h y (by simp [hy])))
  rw [List.length_erase_of_mem hx] at this
  have hp:0<m.length:=List.length_pos_of_mem hx
  simp only [Ya]
  omega
end
section
set_option maxRecDepth 100000
def LoH(h:Int):Prop:=0≤h∧h % 65536<5
def LoB(b:Bk):Prop:=(∀ e∈b.H,LoH e.a.h)∧∀ e∈b.T,LoH e.a.h
theorem zDr{l:List Plc}(h:∀ e∈l,LoH e.a.h)(i:Nat)(t:Int):∀ e∈zrq l i t,LoH e.a.h:=by
 intro e he
 obtain ⟨y,h1,h2⟩:=zwB (zrz _ _ _) he
 simp only [zbT,QL] at h2
 rw [← h2.2.1]; exact h y h1
theorem zzG{l:List Plc}(h:∀ e∈l,LoH e.a.h){p:Plc}(hp:LoH p.a.h):∀ e∈zgh l p,LoH e.a.h:=by
 intro e he
 rcases zoT he with rfl | he
 ·exact hp
 ·exact h e he
theorem zzD{l:List Plc}(h:∀ e∈l,LoH e.a.h)(i:Nat):∀ e∈za3 l i,LoH e.a.h:=fun e he=>h e ((zdI _ _).subset he)
theorem zCC{b:Bk}(h:LoB b){a:Adr}(ha:LoH a.h)(src:Int):LoB (zdz b a src).1:=by
 unfold zdz
 split
 ·exact ⟨h.1,zDr h.2 _ _⟩
 ·split
  ·exact ⟨zDr h.1 _ _,h.2⟩
  ·split
   ·split
    ·exact h
    ·exact ⟨zzG (zzD h.1 _) ha,h.2⟩
   ·exact ⟨zzG h.1 ha,h.2⟩
theorem zGO{b:Bk}(h:LoB b){i:Nat}(hi:i<b.H.length):LoB (zui b i b.H[i]):=by
 have hp:LoH (zfM b b.H[i]).a.h:=by rw [zqT]; exact h.1 _ (W1 hi)
 unfold zui
 split
 ·split
  ·rename_i o ho
   exact zCC ⟨zzD h.1 _,zzG (zzD h.2 _) hp⟩ (h.2 o (List.mem_of_getElem? ho)) _
  ·exact h
 ·exact ⟨zzD h.1 _,zzG h.2 hp⟩
theorem zHQ{r1 r2:Int}(h1:0≤r1)(h2:r1<6)(h3:0≤r2)(h4:r2<5):LoH (QF .u32 (zlp .u32 (QF .u32 r1) 16+QF .u32 r2)):=by
 have e:zlp .u32 (QF .u32 r1) 16=r1*65536:=by
  rw [ziA (by omega) (by omega)]
  show QF .u32 (r1*2 ^ (min (16:Int).toNat 32))=_
  rw [show (2:Int) ^ (min (16:Int).toNat 32)=65536 from rfl,ziA (by omega) (by omega)]
 rw [e,ziA (n:=r2) (by omega) (by omega),ziA (by omega) (by omega)]
 unfold LoH; omega
theorem zH1(L:Nat)(d:Dk):∃ (a:Adr) (d':Dk),d'.l=d.l∧LoH a.h∧∀ (β:Type) (k:List V→List (List V)→Int→Option β),xx β L d.es d.a k=k a.v d'.es d'.a:=by
 obtain ⟨r1,d1,e1,g1,g2,q1⟩:=zgp L d 6 (by omega) (by omega)
 obtain ⟨r2,d2,e2,g3,g4,q2⟩:=zgp L d1 5 (by omega) (by omega)
 obtain ⟨r3,d3,e3,_,_,q3⟩:=zgp L d2 2 (by omega) (by omega)
 obtain ⟨r4,d4,e4,_,_,q4⟩:=zgp L d3 50 (by omega) (by omega)
 refine ⟨⟨QF .u32 (zlp .u32 (QF .u32 r1) 16+QF .u32 r2),QF .u16 r3,QF .u32 r4⟩,d4,by rw [e4,e3,e2,e1],zHQ g1 g2 g3 g4,fun β k=>?_⟩
 simp only [xx,zsK,q1,q2,q3,q4,xn]
 rw [zb (by simp)]
 rfl
theorem zDR(L:Nat)(hL:200000<L):∀ (c m:Nat) (b:Bk) (d:Dk),c<m→c≤1000→SndB b→LoB b→∃ (b':Bk) (d':Dk),d'.l=d.l∧SndB b'∧LoB b'∧∀ (β:Type) (kx:List (List V)→Int→List V→List V→Option β),zcl yx xa xv xx yr (L+100) kx m (c:Int) d.es d.a z34g b.v=kx d'.es d'.a z34g b'.v:=by
 intro c
 induction c with
 | zero=>
  intro m b d hm hc hS hN
  refine ⟨b,d,rfl,hS,hN,fun β kx=>?_⟩
  obtain ⟨m,rfl⟩:∃ q,m=q+1:=⟨m-1,by omega⟩
  simp only [zcl,zea]
  rw [z9 (by omega)]
 | succ c IH=>
  intro m b d hm hc hS hN
  obtain ⟨m,rfl⟩:∃ q,m=q+1:=⟨m-1,by omega⟩
  have hH:=hS.lenH
  have w:QF .i64 (((c+1:Nat):Int)-1)=(c:Int):=by rw [y5 (by omega) (by omega)]; omega
  obtain ⟨r0,d0,e0,g1,g2,q0⟩:=zgp (L+100) d 4 (by omega) (by omega)
  by_cases h0:r0=0
  ·by_cases hp:0<b.H.length
   ·obtain ⟨r1,d1,e1,g3,g4,q1⟩:=zgp (L+100) d0 (b.H.length:Int) (by omega) (by omega)
    obtain ⟨i,rfl⟩:∃ i:Nat,r1=i:=⟨r1.toNat,by omega⟩
    have hi:i<b.H.length:=by omega
    obtain ⟨j,hj,hf⟩:=zEV hi
    obtain ⟨b',d',e',hS',hN',q'⟩:=IH m (zui b j b.H[j]) d1 (by omega) (by omega) (zFv hS hj) (zGO hN hj)
    refine ⟨b',d',by rw [e',e1,e0],hS',hN',fun β kx=>?_⟩
    simp only [zcl,zea,q0]
    rw [zac (by omega),zdm,if_pos h0,zbi b.g32,xO,zac (by omega),zb (by rw [b.len]; omega),zbi b.g32,zbi b.g32,xO,q1,za6 (zbk hi),b.take,b.dem,p13,zHE L hL b hS _ j hj hf,zb ⟨Bk.len _,by rw [b.len]; omega⟩,z34 _ b.len,xn,xn,w]
    exact q' β kx
   ·obtain ⟨b',d',e',hS',hN',q'⟩:=IH m b d0 (by omega) (by omega) hS hN
    refine ⟨b',d',by rw [e',e0],hS',hN',fun β kx=>?_⟩
    simp only [zcl,zea,q0]
    rw [zac (by omega),zdm,if_pos h0,zbi b.g32,xO,z9 (by omega),xn,w]
    exact q' β kx
  ·obtain ⟨a,d1,e1,ha,q1⟩:=zH1 (L+100) d0
   obtain ⟨r2,d2,e2,_,_,q2⟩:=zgp (L+100) d1 4 (by omega) (by omega)
   obtain ⟨b',d',e',hS',hN',q'⟩:=IH m (zdz b a (QF .u32 r2)).1 d2 (by omega) (by omega) (zrY hS _ _) (zCC hN ha _)
   refine ⟨b',d',by rw [e',e2,e1,e0],hS',hN',fun β kx=>?_⟩
   simp only [zcl,zea,q0,q1,q2]
   rw [zac (by omega),zdm,if_neg h0,zb (by rw [b.len]; omega),xn,b.take,b.dem,zGk L hL b hS,zb ⟨Bk.len _,by rw [b.len]; omega⟩,z34 _ b.len,xn,xn,w]
   exact q' β kx
theorem zGi(L:Nat)(hL:200000<L)(d:Dk):∃ (b:Bk) (d':Dk),d'.l=d.l∧SndB b∧LoB b∧∀ (β:Type) (k:List V→List (List V)→Int→Option β),zf β (L+100) d.es d.a k=k b.v d'.es d'.a:=by
 obtain ⟨s,d1,e1,hs,q1⟩:=zHU (L+100) d
 obtain ⟨r,d2,e2,g1,g2,q2⟩:=zgp (L+100) d1 40 (by omega) (by omega)
 obtain ⟨c,rfl⟩:∃ c:Nat,r=c:=⟨r.toNat,by omega⟩
 obtain ⟨b',d',e',hS',hN',q'⟩:=zDR L hL c (L+100) (Bk.new s hs) d2 (by omega) (by omega) (zDf s hs) ⟨fun e he=>(by cases he),fun e he=>(by cases he)⟩
 refine ⟨b',d',by rw [e',e2,e1],hS',hN',fun β k=>?_⟩
 simp only [zf,zpc,zsE,q1,q2]
 have es:yh (We 32 (Qa (0:Int))++[(V.sl 5 ([]:List (List V))),(V.sl 5 ([]:List (List V)))]) 0 (row .u8 s)=(Bk.new s hs).v:=by
  rw [zFB _ _ _ (by simp [zcI,hs])]; rfl
 rw [zb (by rw [zcI,hs]; omega),es,zb ⟨Bk.len _,by omega⟩,z34 _ (by simp),xn]
 refine (q' β _).trans ?_
 unfold zkK
 rw [zb (by rw [b'.len]; omega),b'.take,zb ⟨b'.len,by rw [ztW]; omega⟩,z34 _ ztW,xn,zb ⟨rfl,b'.len,by omega⟩]
end
section
set_option maxRecDepth 100000
variable {β:Type}
def zAp(src:Int):List Plc→Nat
 | []=>0
 | e::l=>(if e.s=src then 1 else 0)+zAp src l
theorem zCZ(L:Nat)(l:List Plc)(hl:l.length≤1000000)(src:Int)(kx:Int→Option β):∀ (m i c:Nat),c≤i→i≤l.length→l.length-i<m →
  zdr L kx m src (c:Int) (yC l) (l.length:Int) (i:Int)=kx ((c+zAp src (l.drop i):Nat):Int):=by
 intro m
 induction m with
 | zero=>intro i c h0 h1 h2; omega
 | succ m ih=>
  intro i c h0 h1 h2
  unfold zdr zhD
  by_cases h:i<l.length
  ·rw [zac (by omega),za6 (zbk h),zkr,zb ⟨rfl,by omega⟩,z5,xn,zA (n:=l[i].s) rfl,zdm,WP h,zAp,xn,xn,zS (by omega),zS (by omega)]
   by_cases hs:l[i].s=src
   ·rw [if_pos hs,if_pos hs]
    refine (ih (i+1) (c+1) (by omega) (by omega) (by omega)).trans ?_
    congr 2; omega
   ·rw [if_neg hs,if_neg hs]
    refine (ih (i+1) c (by omega) (by omega) (by omega)).trans ?_
    congr 2; omega
  ·rw [z9 (by omega),WI (by omega)]; rfl
theorem zE4(L:Nat)(b:Bk)(hH:b.H.length≤1000000)(hL:b.H.length<L)(src:Int)(k:Int→Option β):zc β L b.v src k=k ((zAp src b.H:Nat):Int):=by
 unfold zc zik zmg
 rw [zbi b.g32,xO]
 refine (zCZ L b.H hH src _ L 0 0 (by omega) (by omega) (by omega)).trans ?_
 unfold zgj
 rw [XU,WB]
end
section
set_option maxRecDepth 100000
variable {β:Type}
theorem zCT(L:Nat)(l:List Plc)(hl:l.length≤1000000)(hL:l.length<L)(k:Bool→Option β):za β L (yC l) (yC l) k=k true:=by
 have loop:∀ (kr:Bool→Option β) (kx:Option β) (m i:Nat),i≤l.length→l.length-i<m→zcN L kr kx m (yC l) (yC l) (i:Int)=kx:=by
  intro kr kx m
  induction m with
  | zero=>intro i h1 h2; omega
  | succ m ih=>
   intro i h1 h2
   simp only [zcN,zgn,xn,xO]
   by_cases hi:i<l.length
   ·rw [zac (by omega),za6 (zbk hi),za6 (zbk hi),zkr,eqP,zS (by omega)]
    exact ih (i+1) (by omega) (by omega)
   ·rw [z9 (by omega)]
 simp only [za,zgI,zkG]
 rw [zmB,if_pos rfl]
 exact loop _ _ L 0 (by omega) (by omega)
end
section
set_option maxRecDepth 100000
theorem zHD(x y t:Int):[(Qc x),(Qb y),(Qc t)]=(⟨x,y,t⟩:Adr).v:=rfl
theorem zGq(l:List Plc)(p:Plc):p∈zgh l p:=by unfold zgh; simp
theorem zBH{l:List Plc}{x:Plc}(h:x∈l)(p:Plc):x∈zgh l p:=by
 unfold zgh
 have h2:x∈l.take (toN l p.b)++l.drop (toN l p.b):=by rw [Yc]; exact h
 rcases QC.1 h2 with h | h
 ·simp [h]
 ·simp [h]
theorem zHV{l:List Plc}{m:Nat}(hm:m<l.length){x:Plc}(h:x∈l):x∈za3 l m∨x=l[m]:=by
 obtain ⟨i,hi,rfl⟩:=List.getElem_of_mem h
 by_cases e:i=m
 ·subst e; exact .inr rfl
 ·left
  unfold za3
  rw [QC]
  by_cases hlt:i<m
  ·exact .inl (XR.2 ⟨i,by omega,rfl⟩)
  ·exact .inr (Yh.2 ⟨i-(m+1),by omega,by congr 1; omega⟩)
theorem zEQ{s:List Int}{H:List Plc}{bk:Plc→Int}{N:List Adr}(hT:TOk bk N H)(a:Adr)(src:Int) :
  (∀ x∈(zgH s H a src).1,x∈H∨x=⟨hbk s a src,a,src⟩)∧∀ x∈H,x∈(zgH s H a src).1∨(x.b=hbk s a src∧(⟨hbk s a src,a,src⟩:Plc)∈(zgH s H a src).1):=by
 unfold zgH
 generalize hbk s a src=v
 split
 ·rename_i h8
  have hr:=zm8 H v
  have hm:=zhK H (xC H v) (toN H v) (toN H v-xC H v) (xC H v) (xC H v) (Wq _) (by omega) (Wq _) (by omega)
  generalize zda H (toN H v-xC H v) (xC H v) (xC H v)=m at hm
  have hml:m<H.length:=by omega
  split
  ·exact ⟨fun x hx=>.inl hx,fun x hx=>.inl hx⟩
  ·refine ⟨fun x hx=>?_,fun x hx=>?_⟩
   ·rcases zoT hx with h | h
    ·exact .inr h
    ·exact .inl ((zdI _ _).subset h)
   ·rcases zHV hml hx with h | h
    ·exact .inl (zBH h _)
    ·exact .inr ⟨by rw [h]; exact zww hT hm.1 hm.2 hml,zGq _ _⟩
 ·refine ⟨fun x hx=>?_,fun x hx=>.inl (zBH hx _)⟩
  rcases zoT hx with h | h
  ·exact .inr h
  ·exact .inl h
structure Cr (o:Bk) (src:Int) (i:Nat) (b:Bk):Prop where
 t:b.T=o.T
 s:b.salt=o.salt
 l:∀ e∈b.H,LoH e.a.h∨(100≤e.a.h % 65536∧e.a.h % 65536<100+i)
 k:∀ e∈o.H,e∈b.H∨∃ q∈b.H,q.s=src∧q.b=e.b
theorem Cr.step{o b:Bk}{src:Int}{i:Nat}(h:Cr o src i b)(hS:SndB b)(hT:∀ e∈o.T,LoH e.a.h){a:Adr}(ha:a.h % 65536=100+i):Cr o src (i+1) (zdz b a src).1:=by
 have ne:∀ x:Plc,x.a.h % 65536≠100+i→zB x.a a=false:=by
  intro x hx
  unfold zB
  rw [beq_eq_false_iff_ne.2 (fun e=>hx (by rw [e]; exact ha))]; rfl
 have n1:∀ x∈b.T,zB x.a a=false:=fun x hx=>ne x (by rw [h.t] at hx; have:=(hT x hx).2; omega)
 have n2:∀ x∈b.H,zB x.a a=false:=fun x hx=>ne x (by
  rcases h.l x hx with q | q
  ·have:=q.2; omega
  ·omega)
 have mem_find:∀ {l:List Plc},(∀ x∈l,zB x.a a=false)→¬ zcK (fun x=>zB x.a a) l 0≥0:=by
  intro l h
  rcases zmx (fun x:Plc=>zB x.a a) l 0 with ⟨h1,h2⟩ | ⟨j,hj,h1,h2,h3⟩
  ·omega
  ·have:=h _ (W1 hj)
   rw [h3] at this; cases this
 rw [zxp b a src (mem_find n1) (mem_find n2)]
 obtain ⟨m1,m2⟩:=zEQ (s:=b.salt) hS.h a src
 refine ⟨h.t,h.s,fun e he=>?_,fun e he=>?_⟩
 ·rcases m1 e he with q | rfl
  ·rcases h.l e q with q | q
   ·exact .inl q
   ·exact .inr ⟨q.1,by omega⟩
  ·exact .inr ⟨by show 100≤a.h % 65536; omega,by show a.h % 65536<_; omega⟩
 ·rcases h.k e he with q | ⟨q,q1,q2,q3⟩
  ·rcases m2 e q with q' | ⟨q1,q2⟩
   ·exact .inl q'
   ·exact .inr ⟨_,q2,rfl,q1.symm⟩
  ·rcases m2 q q1 with q' | ⟨q4,q5⟩
   ·exact .inr ⟨q,q',q2,q3⟩
   ·exact .inr ⟨_,q5,rfl,by rw [← q3,q4]⟩
theorem zGN{r:Int}{i:Nat}(h1:0≤r)(h2:r<9)(hi:i<60):(QF .u32 (zlp .u32 (QF .u32 r) 16+QF .u32 (QF .i64 (100+(i:Int))))) % 65536=100+i:=by
 have e:zlp .u32 (QF .u32 r) 16=r*65536:=by
  rw [ziA (by omega) (by omega)]
  show QF .u32 (r*2 ^ (min (16:Int).toNat 32))=_
  rw [show (2:Int) ^ (min (16:Int).toNat 32)=65536 from rfl,ziA (by omega) (by omega)]
 rw [e,y5 (by omega) (by omega),ziA (n:=100+(i:Int)) (by omega) (by omega),ziA (by omega) (by omega)]
 omega
theorem zEj(L:Nat)(hL:200000<L)(src:Int)(o:Bk)(hT:∀ e∈o.T,LoH e.a.h):∀ (c m i:Nat) (b:Bk) (d:Dk),i+c=60→c<m→SndB b→Cr o src i b→∃ (b':Bk) (d':Dk),SndB b'∧Cr o src 60 b'∧∀ (kr:Bool→List (List V)→Int→List V→Option Bool) (kx:zne Bool),
  zdP xa yg (L+100) kr kx m src (i:Int) d.es d.a (b.salt.getD 0 0) (b.salt.getD 1 0) (b.salt.getD 2 0) (b.salt.getD 3 0) (b.salt.getD 4 0) (b.salt.getD 5 0) (b.salt.getD 6 0) (b.salt.getD 7 0) (b.salt.getD 8 0) (b.salt.getD 9 0) (b.salt.getD 10 0) (b.salt.getD 11 0) (b.salt.getD 12 0) (b.salt.getD 13 0) (b.salt.getD 14 0) (b.salt.getD 15 0) (b.salt.getD 16 0) (b.salt.getD 17 0) (b.salt.getD 18 0) (b.salt.getD 19 0) (b.salt.getD 20 0) (b.salt.getD 21 0) (b.salt.getD 22 0) (b.salt.getD 23 0) (b.salt.getD 24 0) (b.salt.getD 25 0) (b.salt.getD 26 0) (b.salt.getD 27 0) (b.salt.getD 28 0) (b.salt.getD 29 0) (b.salt.getD 30 0) (b.salt.getD 31 0) (yC b.H) (yC b.T) z34g=kx d'.es d'.a (b'.salt.getD 0 0) (b'.salt.getD 1 0) (b'.salt.getD 2 0) (b'.salt.getD 3 0) (b'.salt.getD 4 0) (b'.salt.getD 5 0) (b'.salt.getD 6 0) (b'.salt.getD 7 0) (b'.salt.getD 8 0) (b'.salt.getD 9 0) (b'.salt.getD 10 0) (b'.salt.getD 11 0) (b'.salt.getD 12 0) (b'.salt.getD 13 0) (b'.salt.getD 14 0) (b'.salt.getD 15 0) (b'.salt.getD 16 0) (b'.salt.getD 17 0) (b'.salt.getD 18 0) (b'.salt.getD 19 0) (b'.salt.getD 20 0) (b'.salt.getD 21 0) (b'.salt.getD 22 0) (b'.salt.getD 23 0) (b'.salt.getD 24 0) (b'.salt.getD 25 0) (b'.salt.getD 26 0) (b'.salt.getD 27 0) (b'.salt.getD 28 0) (b'.salt.getD 29 0) (b'.salt.getD 30 0) (b'.salt.getD 31 0) (yC b'.H) (yC b'.T) z34g:=by
 intro c
 induction c with
 | zero=>
  intro m i b d hi hm hS hC
  obtain ⟨m,rfl⟩:∃ q,m=q+1:=⟨m-1,by omega⟩
  have:i=60:=by omega
  subst this
  refine ⟨b,d,hS,hC,fun kr kx=>?_⟩
  unfold zdP zht
  rw [z9 (by omega)]
 | succ c IH=>
  intro m i b d hi hm hS hC
  obtain ⟨m,rfl⟩:∃ q,m=q+1:=⟨m-1,by omega⟩
  obtain ⟨r1,d1,e1,g1,g2,q1⟩:=zgp (L+100) d 9 (by omega) (by omega)
  obtain ⟨r2,d2,e2,g3,g4,q2⟩:=zgp (L+100) d1 9 (by omega) (by omega)
  obtain ⟨a,ha⟩:∃ a:Adr,a=⟨QF .u32 (zlp .u32 (QF .u32 r1) 16+QF .u32 (QF .i64 (100+(i:Int)))),QF .u16 (i:Int),QF .u32 (QF .i64 (60+r2))⟩:=⟨_,rfl⟩
  have hlow:a.h % 65536=100+i:=by rw [ha]; exact zGN g1 g2 (by omega)
  have hS1:=zrY hS a src
  have hC1:=hC.step hS hT hlow
  have ah:=fun (k:List V→Bool→Int→Option Bool)=>zvs L hL b (by have:=hS.lenH; omega) (by have:=hS.lenT; omega) a src k
  simp only [(zfw b).2 hS,if_true] at ah
  generalize zdz b a src=p at hS1 ah hC1
  obtain ⟨b1,w1⟩:=p
  simp only at hS1 ah hC1
  obtain ⟨b',d',hS',hC',q'⟩:=IH m (i+1) b1 d2 (by omega) (by omega) hS1 hC1
  refine ⟨b',d',hS',hC',fun kr kx=>?_⟩
  unfold zdP zht
  rw [zac (by omega),q1,xn,xn,xn,xn,xn,xn,q2,xn,xn,zHD,← ha,xn,zb (by show 0+3≤3; omega),zeG,b.vv,ah,zb ⟨b1.len,by omega⟩,z34 _ (by simp),xn,zmB,if_pos rfl,zb (by rw [b1.len]; omega),b1.take,zb b1.len,zl b1 0 (by omega),zl b1 1 (by omega),zl b1 2 (by omega),zl b1 3 (by omega),zl b1 4 (by omega),zl b1 5 (by omega),zl b1 6 (by omega),zl b1 7 (by omega),zl b1 8 (by omega),zl b1 9 (by omega),zl b1 10 (by omega),zl b1 11 (by omega),zl b1 12 (by omega),zl b1 13 (by omega),zl b1 14 (by omega),zl b1 15 (by omega),zl b1 16 (by omega),zl b1 17 (by omega),zl b1 18 (by omega),zl b1 19 (by omega),zl b1 20 (by omega),zl b1 21 (by omega),zl b1 22 (by omega),zl b1 23 (by omega),zl b1 24 (by omega),zl b1 25 (by omega),zl b1 26 (by omega),zl b1 27 (by omega),zl b1 28 (by omega),zl b1 29 (by omega),zl b1 30 (by omega),zl b1 31 (by omega),b1.c32,b1.c33,xn,zS (by omega)]
  exact q' kr kx
theorem zGK(L:Nat)(hL:200000<L)(src:Int)(b:Bk)(hS:SndB b)(hB:LoB b)(d:Dk):∃ (c:Bk) (d':Dk),SndB c∧Cr b src 60 c∧∀ (k:List V→Bool→List (List V)→Int→Option Bool),yd Bool (L+100) b.v src d.es d.a k=k c.v true d'.es d'.a:=by
 obtain ⟨c,d',hc,hC,q⟩:=zEj L hL src b hB.2 60 (L+100) 0 b d (by omega) (by omega) hS ⟨rfl,rfl,fun e he=>.inl (hB.1 e he),fun e he=>.inl he⟩
 refine ⟨c,d',hc,hC,fun k=>?_⟩
 unfold yd zlZ zp1
 rw [zb b.len,zl b 0 (by omega),zl b 1 (by omega),zl b 2 (by omega),zl b 3 (by omega),zl b 4 (by omega),zl b 5 (by omega),zl b 6 (by omega),zl b 7 (by omega),zl b 8 (by omega),zl b 9 (by omega),zl b 10 (by omega),zl b 11 (by omega),zl b 12 (by omega),zl b 13 (by omega),zl b 14 (by omega),zl b 15 (by omega),zl b 16 (by omega),zl b 17 (by omega),zl b 18 (by omega),zl b 19 (by omega),zl b 20 (by omega),zl b 21 (by omega),zl b 22 (by omega),zl b 23 (by omega),zl b 24 (by omega),zl b 25 (by omega),zl b 26 (by omega),zl b 27 (by omega),zl b 28 (by omega),zl b 29 (by omega),zl b 30 (by omega),zl b 31 (by omega),b.c32,b.c33]
 refine (q _ _).trans ?_
 unfold zjl
 rw [c.vv,zb ⟨rfl,by rw [ztW]; omega⟩,z34 _ ztW,xn,zb ⟨rfl,c.len,by omega⟩]
theorem zGa(L:Nat)(v:Int)(l:List Int)(hl:l.length≤100000)(kr:Bool→Option Bool)(kx:Option Bool)(k:Bool→Option Bool)(hr:kr true=k true)(hx:kx=k false):∀ (m i:Nat),i≤l.length→l.length-i<m →
  zgA L kr kx m v (zaj .i64 l) (l.length:Int) (i:Int)=k ((l.drop i).any (fun x=>x==v)):=by
 intro m
 induction m with
 | zero=>intro i h1 h2; omega
 | succ m ih=>
  intro i h1 h2
  unfold zgA znL
  by_cases h:i<l.length
  ·rw [zac (by omega),za6 (ztE _ h),zA (n:=l[i]) rfl,zdm,WP h,List.any_cons]
   by_cases c:l[i]=v
   ·rw [if_pos c,beq_iff_eq.2 c,Bool.true_or]; exact hr
   ·rw [if_neg c,beq_eq_false_iff_ne.2 c,Bool.false_or,xn,zS (by omega)]
    exact ih (i+1) (by omega) (by omega)
  ·rw [z9 (by omega),WI (by omega)]; exact hx
theorem zFK(L:Nat)(v:Int)(l:List Int)(hl:l.length≤100000)(hL:l.length<L)(k:Bool→Option Bool):xe Bool L (zaj .i64 l) v k=k (l.any (fun x=>x==v)):=by
 unfold xe zo8 zsv
 rw [zdk]
 exact zGa L v l hl _ _ k rfl rfl L 0 (by omega) (by omega)
def zl9(src:Int):List Plc→List Int→List Int
 | [],o=>o
 | e::l,o=>if e.s=src∧o.any (fun x=>x==e.b)=false then zl9 src l (o++[e.b]) else zl9 src l o
theorem zuq(src:Int):∀ (l:List Plc) (o:List Int),∀ x∈o,x∈zl9 src l o
 | [],o,x,h=>h
 | e::l,o,x,h=>by
  unfold zl9
  split
  ·exact zuq src l _ x (by simp [h])
  ·exact zuq src l o x h
theorem zxY(src:Int):∀ (l:List Plc) (o:List Int),∀ e∈l,e.s=src→e.b∈zl9 src l o
 | e::l,o,x,h,hs=>by
  rcases Q7.1 h with rfl | h
  ·unfold zl9
   split
   ·exact zuq src l _ _ (by simp)
   ·rename_i hn
    have:o.any (fun y=>y==x.b)=true:=by
     cases hb:o.any (fun y=>y==x.b) with
     | true=>rfl
     | false=>exact absurd ⟨hs,hb⟩ hn
    obtain ⟨y,hy,e⟩:=Yj.1 this
    have:y=x.b:=by simpa using e
    exact zuq src l o _ (this ▸ hy)
  ·unfold zl9
   split
   ·exact zxY src l _ x h hs
   ·exact zxY src l _ x h hs
theorem zv2(src:Int):∀ (l:List Plc) (o:List Int),∀ v∈zl9 src l o,v∈o∨∃ e∈l,e.s=src∧e.b=v
 | [],o,v,h=>.inl h
 | e::l,o,v,h=>by
  unfold zl9 at h
  split at h
  ·rename_i hc
   rcases zv2 src l _ v h with q | ⟨x,x1,x2⟩
   ·rcases QC.1 q with q | q
    ·exact .inl q
    ·exact .inr ⟨e,by simp,hc.1,by simpa [eq_comm] using q⟩
   ·exact .inr ⟨x,by simp [x1],x2⟩
  ·rcases zv2 src l _ v h with q | ⟨x,x1,x2⟩
   ·exact .inl q
   ·exact .inr ⟨x,by simp [x1],x2⟩
theorem zuj(src:Int):∀ (l:List Plc) (o:List Int),o.Nodup→(zl9 src l o).Nodup
 | [],o,h=>h
 | e::l,o,h=>by
  unfold zl9
  split
  ·rename_i hc
   refine zuj src l _ ?_
   rw [List.nodup_append]
   refine ⟨h,by simp,fun a ha b hb=>?_⟩
   simp only [Yo] at hb
   subst hb
   intro e2
   have:=List.any_eq_false.1 hc.2 a ha
   simp [e2] at this
  ·exact zuj src l _ h
theorem zGR(L:Nat)(hL:200000<L)(src:Int)(l:List Plc)(hl:l.length≤1000)(b6 b7:List V)(es:List (List V))(pos:Int)(kx:zfO Bool):∀ (m i:Nat) (o:List Int),o.length≤i→i≤l.length→l.length-i<m →
  zaK xd xf zf yd zc za ya xe L kx m src (zaj .i64 o) (yC l) (l.length:Int) (i:Int) b6 b7 es pos=kx (zaj .i64 (zl9 src (l.drop i) o)) b6 b7 es pos:=by
 intro m
 induction m with
 | zero=>intro i o h0 h1 h2; omega
 | succ m ih=>
  intro i o h0 h1 h2
  unfold zaK zc2
  by_cases h:i<l.length
  ·rw [zac (by omega),za6 (zbk h),zkr,zb ⟨rfl,by omega⟩,z5,xn,zA (n:=l[i].s) rfl,zdm,WP h,zl9]
   by_cases c1:l[i].s=src
   ·rw [if_pos c1,zA (n:=l[i].b) rfl,zFK L _ o (by omega) (by omega)]
    cases c2:o.any (fun x=>x==l[i].b) with
    | true=>
     rw [Xg,zb6,if_neg (by simp),xn,zS (by omega)]
     exact ih (i+1) o (by omega) (by omega) (by omega)
    | false=>
     have e1:xh 1 1 [(Qe l[i].b)]=zaj .i64 [l[i].b]:=rfl
     rw [Yg,zgY,if_pos ⟨c1,rfl⟩,zA (n:=l[i].b) rfl,e1,zb (by simp only [zdk,xq,Yn]; omega),xn,zx4,xn,zS (by omega)]
     exact ih (i+1) (o++[l[i].b]) (by simp; omega) (by omega) (by omega)
   ·rw [if_neg c1,if_neg (fun q=>c1 q.1),xn,zS (by omega)]
    exact ih (i+1) o (by omega) (by omega) (by omega)
  ·rw [z9 (by omega),WI (by omega)]; rfl
theorem zI4(p q:Plc):∃ r:Bool,(p=q→r=true)∧∀ (k:Bool→Option Bool),eqC 5 p.v q.v k=k r:=by
 refine ⟨p.b==q.b&&(p.a.h==q.a.h&&(p.a.p==q.a.p&&(p.a.t==q.a.t&&(p.s==q.s&&true)))),fun e=>by subst e; simp,fun k=>?_⟩
 unfold eqC Plc.v
 rw [zb ⟨rfl,rfl⟩]
 simp [zgo]
theorem zFZ(L:Nat)(own:List (List V))(p82:List (List V))(p83 p84:Int)(l:List Plc)(hl:l.length≤1000)(e:Plc)(b7:List V)(es:List (List V))(pos:Int)(kx:zfA Bool):∀ (m i:Nat) (t:Bool),i≤l.length→l.length-i<m →
  ∃ K:Bool,((t=true∨e∈l.drop i)→K=true)∧yX xd xf zf yd zc za ya xe L kx m own t p82 p83 p84 (yC l) (l.length:Int) (i:Int) b7 e.v es pos=kx own K p82 p83 p84 b7 e.v es pos:=by
 intro m
 induction m with
 | zero=>intro i t h1 h2; omega
 | succ m ih=>
  intro i t h1 h2
  unfold yX zbe
  by_cases h:i<l.length
  ·rw [zac (by omega),za6 (zbk h),zkr,zb ⟨rfl,by omega⟩,z5,xn,xn,zS (by omega),WP h]
   cases t with
   | true=>
    obtain ⟨K,k1,k2⟩:=ih (i+1) true (by omega) (by omega)
    exact ⟨K,fun _=>k1 (.inl rfl),by rw [zgY]; exact k2⟩
   | false=>
    obtain ⟨r,r1,r2⟩:=zI4 e l[i]
    obtain ⟨K,k1,k2⟩:=ih (i+1) r (by omega) (by omega)
    refine ⟨K,fun q=>k1 ?_,?_⟩
    ·rcases q with q | q
     ·cases q
     ·rcases Q7.1 q with q | q
      ·exact .inl (r1 q)
      ·exact .inr q
    ·rw [zb6,zb (by show 0+5≤5; omega),zb (by show 0+5≤5; omega),zkr,zkr,r2,xn]
     exact k2
  ·refine ⟨t,fun q=>?_,by rw [z9 (by omega)]⟩
   rcases q with q | q
   ·exact q
   ·rw [WI (by omega)] at q; cases q
theorem zGI(L:Nat)(hL:200000<L)(own:List Int)(ho:own.length≤1000)(l:List Plc)(hl:l.length≤1000)(c:Bk)(hc:c.H.length≤1000)(hk:∀ e∈l,e∈c.H∨e.b∈own)(es:List (List V))(pos:Int)(kr:Bool→List (List V)→Int→Option Bool)(kx:List (List V)→Int→Option Bool):∀ (m i:Nat),i≤l.length→l.length-i<m →
  y8 xd xf zf yd zc za ya xe L kx kr m (zaj .i64 own) (yC l) (l.length:Int) (i:Int) c.v es pos=kx es pos:=by
 intro m
 induction m with
 | zero=>intro i h1 h2; omega
 | succ m ih=>
  intro i h1 h2
  unfold y8 zbd zcH
  by_cases h:i<l.length
  ·rw [zac (by omega),za6 (zbk h),zkr,zb ⟨rfl,by omega⟩,z5,xn,zbi c.g32,xO]
   obtain ⟨K,k1,k2⟩:=zFZ L (zaj .i64 own) (yC l) (l.length:Int) (i:Int) c.H hc l[i] c.v es pos (fun p9 p14 p82 p83 p84 b7 b13 b20_0 b20_1=>zU xd xf zf yd zc za ya xe L p9 p14 p82 p83 p84 b7 b13 b20_0 b20_1 kr (fun p9 p82 p83 p84 b7 b20_0 b20_1=>y8 xd xf zf yd zc za ya xe L kx kr m p9 p82 p83 p84 b7 b20_0 b20_1)) L 0 false (by omega) (by omega)
   refine k2.trans ?_
   show zU xd xf zf yd zc za ya xe L _ K _ _ _ _ _ _ _ _ _=_
   unfold zU
   have next:=ih (i+1) (by omega) (by omega)
   cases K with
   | true=>rw [Xg,zb6,xn,zS (by omega)]; exact next
   | false=>
    have hb:l[i].b∈own:=by
     rcases hk _ (W1 h) with q | q
     ·exact absurd (k1 (.inr (by rw [XU]; exact q))) (by simp)
     ·exact q
    have hany:own.any (fun x=>x==l[i].b)=true:=Yj.2 ⟨_,hb,by simp⟩
    rw [Yg,zgY,zA (n:=l[i].b) rfl,zFK L _ own (by omega) (by omega),hany,Xg,zb6,xn,zS (by omega)]
    exact next
  ·rw [z9 (by omega)]
theorem zxk(src:Int):∀ l:List Plc,zAp src l=zDM src l
 | []=>rfl
 | e::l=>by
  rw [zAp,zxk src l]
  unfold zDM
  by_cases h:e.s=src
  ·simp [h]; omega
  ·simp [h]
theorem ztL(a0:List (List V))(a1:Int)(hl0:a0.length≤maxLen)(wf0:∀ e∈a0,HasRow [.int .i64] e)(wf1:(Lit.int .u32 a1).wf=true) :
  ∃ L,∀ k:Bool→Option Bool,zaJ Bool L a0 a1 k=k true:=by
 obtain ⟨l,rfl,_⟩:=zDh wf0
 rw [zdk] at hl0
 obtain ⟨L,hL⟩:∃ L:Nat,6000000≤L:=⟨6000000,Wq _⟩
 refine ⟨L+100,fun k=>?_⟩
 obtain ⟨b,d1,e1,hS,hB,q1⟩:=zGi L (by omega) ⟨l,0,by omega,by omega,by unfold maxLen at hl0; omega⟩
 obtain ⟨src,hsrc⟩:∃ src,src=QF .u32 (10+XM a1 5):=⟨_,rfl⟩
 obtain ⟨c,d2,hc,hC,q2⟩:=zGK L (by omega) src b hS hB d1
 have hH:=hS.lenH
 have hT:=hS.lenT
 have hcH:=hc.lenH
 have hcT:=hc.lenT
 have h32:=zHZ hc src
 rw [← zxk] at h32
 have hown:(zl9 src c.H []).length≤4:=by
  refine zCx _ (img c.salt (fun x=>[1]++le4 (w64 src)++le4 (w64 x))) (zuj src c.H [] List.nodup_nil) (fun v hv=>?_)
  rcases zv2 src c.H [] v hv with q | ⟨e,e1,e2,e3⟩
  ·cases q
  ·rw [← e3,hc.h.b e e1]
   unfold hbf
   rw [e2]; exact zDe _ _ _
 unfold zaJ zer zg0
 have h1:=q1 Bool
 simp only [Dk.es] at h1 q2
 rw [zII L (by omega),Xg,zb6,zH5,h1,zb ⟨b.len,by omega⟩,z34 _ (by simp),xn,xn,xn,← hsrc,zb (by rw [b.len]; omega),b.take,b.dem,q2,zb ⟨c.len,by omega⟩,z34 _ (by simp),xn,Xg,zb6,zb (by rw [c.len]; omega),c.take,c.dem,zE4 _ c (by omega) (by omega),z9 (by omega),zbi b.g33,zbi c.g33,hC.t,zCT _ b.T (by omega) (by omega),Xg,zb6,zb (by rw [c.len]; omega),zEO L c (by omega) (by omega) (by omega),zCG,(zfw c).2 hc,Xg,zb6,zbi c.g32,xO]
 refine (zGR (L+100) (by omega) src c.H (by omega) b.v c.v _ _ _ (L+100) 0 [] (by simp) (by omega) (by omega)).trans ?_
 rw [XU]
 unfold za9 zcG
 rw [zdk,z9 (by omega),zbi b.g32,xO]
 refine (zGI (L+100) (by omega) (zl9 src c.H []) (by omega) b.H (by omega) c (by omega) (fun e he=>?_) _ _ _ _ (L+100) 0 (by omega) (by omega)).trans ?_
 ·rcases hC.k e he with q | ⟨q,q1,q2,q3⟩
  ·exact .inl q
  ·exact .inr (by rw [← q3]; exact zxY src c.H [] q q1 q2)
 ·rfl
end
section
namespace addrbookFloodsL
open Go.ChangeShapes Go.WideShapes Go.ChangeAt Go.RowKit
theorem own:ownKnob Try.prog.godebug=none:=by kernel_rfl
theorem zDn:laidOutB Try.prog=true:=by kernel_rfl
set_option maxRecDepth 100000 in
theorem zIf(os:Os)(started:os.Started)(H:Type)(enc:TypeId × Value→H) :
  ReturnsInHanded {} Try.checked os 5 .any (Rows.addrbookFloodsSpec.pre6 enc Try.prog Try.f5 Rows.addrbookFloodsRow.domain false) (Rows.addrbookFloodsSpec.post enc Try.prog Try.f5 false true false false):=by
 refine returnsInHanded_of_change (C:=Try.checked) own started (by kernel_rfl) Try.func5
  (ChangeSpec.witness6 (enc:=enc) (C:=Try.checked) false ⟨#[],#[.slice none 0 0,.int .u32 0],[]⟩ 8 (by kernel_rfl) (by kernel_rfl) (by kernel_rfl) (by kernel_rfl)) ?_
 intro W base args ds gs before hval0 hW hcnd _
 have hval:∀ (j:Nat) t v,Try.f5.params[j]?=some t→args[j]?=some v→Value.okWide Try.prog W .any base t v:=hval0
 have hW':=hW
 obtain ⟨p,q,hA0,hV,rfl,hfz,hnd⟩:=hW
 have hA:DataW.TrodAll enc Try.prog W 0 (fun _=>true) true Try.f5.params.toList args.toList ds p:=hA0
 rw [Try.params5] at hA hval
 obtain ⟨v0,vs0,d0,ds0,p0,q0,hargs,rfl,rfl,h0,r0⟩:=trodAll_cons hA
 obtain ⟨v1,vs1,d1,ds1,p1,q1,rfl,rfl,rfl,h1,r1⟩:=trodAll_cons r0
 obtain ⟨rfl,rfl,rfl⟩:=trodAll_nil r1
 obtain rfl:args=#[v0,v1]:=by cases args; simp_all
 obtain ⟨rfl,rfl⟩:=trodVars_none hV
 have k0:=h0
 have lt0:∀ x∈p0,x.block<W.heap.size:=by obtain ⟨m,hm⟩:=k0; exact DataW.trod_lt m _ _ _ hm
 have k1:=h1
 have lt1:∀ x∈p1,x.block<W.heap.size:=by obtain ⟨m,hm⟩:=k1; exact DataW.trod_lt m _ _ _ hm
 obtain ⟨A0,len0,cap0,rfl⟩:=okWide_slice Try.underlying22 (hval 0 22 v0 rfl rfl)
 obtain ⟨x0,hx0,rp0⟩:=zHG (r:=.any) (b0:=base) (ren:=zN fg gls) (d:=20) (ct:=.sl ([.int .i64])) rfl h0 (by kernel_rfl)
 obtain ⟨a0,rfl,hl0,wf0⟩:=hx0.sl_inv
 obtain ⟨a1,rfl,rfl,rfl,wf1⟩:=open_int Try.underlying23 (hval 1 23 v1 rfl rfl) h1
 clear hA0 hval0
 obtain ⟨L,hL⟩:=ztL a0 a1 hl0 wf0 wf1
 have hd:zez zaJ L Bool [(V.sl 1 a0),(Qc a1)] [] zwz=some true:=by
  show (aL 1 (V.sl 1 a0) fun x0=>aI .u32 (Qc a1) fun x1=>zaJ Bool L x0 x1 (fun p=>zwz (V.sc (.bool p)) []))=some true
  rw [zIA,zIE]
  exact (hL (fun p=>zwz (V.sc (.bool p)) [])).trans rfl
 obtain ⟨v,b,hev,hk⟩:=zro L 100 (by decide) Bool [(V.sl 1 a0),(Qc a1)] [] zwz true hd
 have hv:=zFQ hk
 subst hv
 refine (zD6 (us:=[.slice A0 len0 cap0,.int .u32 a1]) (w:=W) (fun _ _ h=>by cases h) (zIy L 100) (f:=5) (by kernel_rfl) rfl (fun i x u hx hu=>?_) hev).mono fun e W' ⟨he,bel0⟩=>?_
 ·match i,hx,hu with
  | 0,hx,hu=>cases hx; cases hu; exact rp0
  | 1,hx,hu=>cases hx; cases hu; exact .sc _ rfl
  | n+2,hx,hu=>simp at hx
 ·have bel:=Kept.below bel0
  subst he
  exact ⟨_,rfl,_,_,_,[],_,[],hW',trodAll_mk1 (shut_bool Try.underlying4 _),(trodAll_cons_mk (Below.trod zDn (by kernel_rfl) (of_decide_eq_true (by kernel_rfl)) k0 bel lt0) (trodAll_cons_mk (Below.trod zDn (by kernel_rfl) (of_decide_eq_true (by kernel_rfl)) k1 bel lt1) trodAll_mk0)),rfl,bel.frame _,fun h=>by cases h⟩
theorem over:Rows.addrbookFloodsRow.holds Try.pinned (OpenSpec.ofChange Rows.addrbookFloodsSpec):=
 OpenClaim.holds_of_wide 5 Try.f5 rfl rfl rfl rfl rfl rfl rfl ⟨rfl,rfl,rfl,rfl,rfl⟩ rfl rfl rfl rfl rfl (by kernel_rfl) Try.func5 (by kernel_rfl)
  (of_decide_eq_true (by kernel_rfl)) (by unfold Func.isWrapper; first | (rw [if_pos (by decide +kernel)]; kernel_rfl) | (rw [if_neg (by decide +kernel)]; exact ⟨rfl,rfl⟩))
  (fun os started H enc _=>zIf os started H enc)
end addrbookFloodsL
theorem addrbookFloods_holds:Rows.AddrbookFloodsSaid:=addrbookFloodsL.over
end
end Go.Proofs.Ytbimgceighecgaa
