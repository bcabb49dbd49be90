/- AddrbookBuckets: for every input the call returns true, and each argument reads afterwards as it read before. No condition. -/
import Derived.Test.YtbimgceighecgaaMAddrbookBuckets13
namespace Go.Proofs.Ytbimgceighecgaa
set_option linter.unusedVariables false
set_option linter.unusedSimpArgs false
open Int renaming toNat_natCast->Yc,toNat->XK
open List renaming drop_eq_getElem_cons->WP,drop_of_length_le->WI,replicate->We,takeWhile_cons->Yd,take_of_length_le->Xu,nil_append->XE,drop_append_of_le_length->Xv,take_append_of_le_length->Xx,getElem?_eq_getElem->Wb,filter_append->XZ,append_nil->Ye,drop->XM,drop_zero->XY,length_cons->Yf,mem_append->QC,flatten->XO,pairwise_map->Yg,take->XL,length_drop->XG,getElem_mem->W1,takeWhile_append_of_pos->Yh,pairwise_cons->Xs,length_append->Wm,getElem?_append_left->Wv,length_take->Ww,drop_append->Yi,drop_left'->Yj,filter_eq_nil_iff->X8,takeWhile_sublist->Yk,head?_drop->Yl,take_append_drop->Ym,pairwise_append->Xr
open IntKind renaming wrap->QF
open Nat renaming le_refl->Wq,zero_add->WB
open Prod.mk renaming injEq->QL
open Bool renaming not_true->Xg
section
def yD(l:List Plc)(v:Int):Nat:=(l.takeWhile (fun x=>decide (x.b<v))).length
def toN(l:List Plc)(v:Int):Nat:=yD l v+((l.drop (yD l v)).takeWhile (fun x=>x.b==v)).length
def zhQ(l:List Plc)(p:Plc):List Plc:=l.take (toN l p.b)++[p]++l.drop (toN l p.b)
def zaP(l:List Plc)(i:Nat):List Plc:=l.take i++l.drop (i+1)
def zEe(t:Int)(e:Plc):Plc:=⟨e.b,⟨e.a.h,e.a.p,zye e.a.t t⟩,e.s⟩
def zpZ(l:List Plc)(i:Nat)(t:Int):List Plc:=l.modify i (zEe t)
def zrB(l:List Plc)(i:Nat):Int:=match l[i]? with | some e=>e.a.t | none=>0
def zcG(l:List Plc):Nat→Nat→Nat→Nat
 | 0,_,m=>m
 | n+1,i,m=>zcG l n (i+1) (if zrB l i<zrB l m then i else m)
def zc8(b:Bk)(a:Adr)(src:Int):Bk × Bool:=
 if zcb (fun x=>zy x.a a) b.T 0≥0 then (⟨b.salt,b.H,zpZ b.T (zcb (fun x=>zy x.a a) b.T 0).toNat a.t,b.hs⟩,false)
 else if zcb (fun x=>zy x.a a) b.H 0≥0 then (⟨b.salt,zpZ b.H (zcb (fun x=>zy x.a a) b.H 0).toNat a.t,b.T,b.hs⟩,false)
 else if toN b.H (hbk b.salt a src)-yD b.H (hbk b.salt a src)≥8 then
  (if zrB b.H (zcG b.H (toN b.H (hbk b.salt a src)-yD b.H (hbk b.salt a src)) (yD b.H (hbk b.salt a src)) (yD b.H (hbk b.salt a src)))≥a.t then (b,false)
   else (⟨b.salt,zhQ (zaP b.H (zcG b.H (toN b.H (hbk b.salt a src)-yD b.H (hbk b.salt a src)) (yD b.H (hbk b.salt a src)) (yD b.H (hbk b.salt a src)))) ⟨hbk b.salt a src,a,src⟩,b.T,b.hs⟩,true))
 else (⟨b.salt,zhQ b.H ⟨hbk b.salt a src,a,src⟩,b.T,b.hs⟩,true)
def zeO(b:Bk)(e:Plc):Plc:=⟨tbk b.salt e.a,e.a,e.s⟩
def zrW(b:Bk)(i:Nat)(e:Plc):Bk:=
 if toN b.T (tbk b.salt e.a)-yD b.T (tbk b.salt e.a)≥8 then
  (match b.T[yD b.T (tbk b.salt e.a)]? with
   | some o=>(zc8 ⟨b.salt,zaP b.H i,zhQ (zaP b.T (yD b.T (tbk b.salt e.a))) (zeO b e),b.hs⟩ o.a (grp o.a)).1
   | none=>b)
 else ⟨b.salt,zaP b.H i,zhQ b.T (zeO b e),b.hs⟩
theorem Srt.split3{l:List Plc}(v:Int)(h:Srt l):∃ A B C:List Plc,l=A++(B++C)∧(∀ x∈A,x.b<v)∧(∀ x∈B,x.b=v)∧(∀ x∈C,v<x.b):=by
 induction l with
 | nil=>exact ⟨[],[],[],rfl,by simp,by simp,by simp⟩
 | cons x l ih=>
  have h':=Xs.1 h
  obtain ⟨A,B,C,rfl,hA,hB,hC⟩:=ih h'.2
  by_cases hx:x.b<v
  ·exact ⟨x::A,B,C,rfl,by simpa using ⟨hx,hA⟩,hB,hC⟩
  ·have eA:A=[]:=by
    cases A with
    | nil=>rfl
    | cons a A=>
     have h1:=hA a (by simp)
     have h2:=h'.1 a (by simp)
     omega
   subst eA
   by_cases hxv:x.b=v
   ·exact ⟨[],x::B,C,rfl,by simp,by simpa using ⟨hxv,hB⟩,hC⟩
   ·have eB:B=[]:=by
     cases B with
     | nil=>rfl
     | cons a B=>
      have h1:=hB a (by simp)
      have h2:=h'.1 a (by simp)
      omega
    subst eB
    exact ⟨[],[],x::C,rfl,by simp,by simp,by simpa using ⟨by omega,hC⟩⟩
theorem zoQ{A B C:List Plc}{v:Int}(hA:∀ x∈A,x.b<v)(hB:∀ x∈B,x.b=v)(hC:∀ x∈C,v<x.b):yD (A++(B++C)) v=A.length:=by
 unfold yD
 rw [Yh (fun x hx=>decide_eq_true (hA x hx))]
 have:(B++C).takeWhile (fun x=>decide (x.b<v))=[]:=by
  cases B with
  | cons b B=>rw [List.cons_append,Yd,if_neg (by have:=hB b (by simp); simp; omega)]
  | nil=>cases C with
   | nil=>rfl
   | cons c C=>rw [XE,Yd,if_neg (by have:=hC c (by simp); simp; omega)]
 rw [this,Ye]
theorem zmY{A B C:List Plc}{v:Int}(hA:∀ x∈A,x.b<v)(hB:∀ x∈B,x.b=v)(hC:∀ x∈C,v<x.b):toN (A++(B++C)) v=A.length+B.length:=by
 unfold toN
 rw [zoQ hA hB hC,Yj rfl,Yh (fun x hx=>beq_iff_eq.2 (hB x hx))]
 have:C.takeWhile (fun x=>x.b==v)=[]:=by
  cases C with
  | nil=>rfl
  | cons c C=>rw [Yd,if_neg (by have:=hC c (by simp); simp; omega)]
 rw [this,Ye]
theorem zt2{A B C:List Plc}{p:Plc}(hA:∀ x∈A,x.b<p.b)(hB:∀ x∈B,x.b=p.b)(hC:∀ x∈C,p.b<x.b):zhQ (A++(B++C)) p=A++(B++(p::C)):=by
 unfold zhQ
 rw [zmY hA hB hC,← List.append_assoc,List.take_left' (by simp),Yj (by simp)]
 simp
theorem zrD{l' l:List Plc}(h:l'.Sublist l)(v:Int):zak v l'≤zak v l:=(h.filter _).length_le
theorem TOk.sub{bk:Plc→Int}{N:List Adr}{l l':List Plc}(h:TOk bk N l)(hs:l'.Sublist l):TOk bk N l':=
 ⟨fun e he=>h.b e (hs.subset he),h.s.sublist hs,fun v=>Nat.le_trans (zrD hs v) (h.c v),h.n.sublist hs,fun e he=>h.f e (hs.subset he)⟩
theorem zdr(l:List Plc)(i:Nat):(zaP l i).Sublist l:=by
 unfold zaP
 rw [← List.eraseIdx_eq_take_drop_succ]
 exact List.eraseIdx_sublist l i
theorem zrv{l:List Plc}{p x:Plc}(h:x∈zhQ l p):x=p∨x∈l:=by
 unfold zhQ at h
 simp only [QC,List.mem_singleton] at h
 rcases h with (h | h) | h
 ·exact .inr (List.mem_of_mem_take h)
 ·exact .inl h
 ·exact .inr (List.mem_of_mem_drop h)
theorem TOk.ins{bk:Plc→Int}{N:List Adr}{l:List Plc}(h:TOk bk N l){p:Plc}(hb:p.b=bk p)(hc:zak p.b l≤7)(hn:∀ x∈l,zy x.a p.a=false)(hf:∀ a∈N,zy a p.a=false):TOk bk N (zhQ l p):=by
 obtain ⟨A,B,C,rfl,hA,hB,hC⟩:=h.s.split3 p.b
 have hs:=h.s
 have hnn:=h.n
 refine ⟨fun e he=>?_,?_,fun v=>?_,?_,fun e he=>?_⟩
 ·rcases zrv he with rfl | he
  ·exact hb
  ·exact h.b e he
 ·rw [zt2 hA hB hC]
  unfold Srt at hs ⊢
  simp only [Xr,Xs,QC,List.mem_cons] at hs ⊢
  obtain ⟨sA,⟨sB,sC,sBC⟩,sABC⟩:=hs
  refine ⟨sA,⟨sB,⟨fun c hc=>Int.le_of_lt (hC c hc),sC⟩,?_⟩,?_⟩
  ·rintro x hx y (rfl | hy)
   ·rw [hB x hx]; exact Int.le_refl _
   ·exact sBC x hx y hy
  ·rintro x hx y (hy | rfl | hy)
   ·exact sABC x hx y (.inl hy)
   ·exact Int.le_of_lt (hA x hx)
   ·exact sABC x hx y (.inr hy)
 ·have hv:=h.c v
  rw [zt2 hA hB hC]
  have e:zak v (A++(B++p::C))=zak v (A++(B++C))+if p.b=v then 1 else 0:=by
   unfold zak
   simp only [XZ,Wm,List.filter_cons,beq_iff_eq]
   split <;> simp <;> omega
  rw [e]
  split
  ·rename_i hp; rw [← hp]; omega
  ·omega
 ·rw [zt2 hA hB hC]
  simp only [QC] at hn
  simp only [Xr,Xs,QC,List.mem_cons] at hnn ⊢
  obtain ⟨sA,⟨sB,sC,sBC⟩,sABC⟩:=hnn
  refine ⟨sA,⟨sB,⟨fun c hc=>by rw [zgI]; exact hn c (.inr (.inr hc)),sC⟩,?_⟩,?_⟩
  ·rintro x hx y (rfl | hy)
   ·exact hn x (.inr (.inl hx))
   ·exact sBC x hx y hy
  ·rintro x hx y (hy | rfl | hy)
   ·exact sABC x hx y (.inl hy)
   ·exact hn x (.inl hx)
   ·exact sABC x hx y (.inr hy)
 ·rcases zrv he with rfl | he
  ·exact hf
  ·exact h.f e he
theorem zzQ{bk:Plc→Int}{N:List Adr}{l:List Plc}(h:TOk bk N l)(v:Int):toN l v-yD l v=zak v l:=by
 obtain ⟨A,B,C,rfl,hA,hB,hC⟩:=h.s.split3 v
 rw [zmY hA hB hC,zoQ hA hB hC]
 unfold zak
 rw [XZ,XZ,X8.2 (fun x hx=>by have:=hA x hx; simp; omega),List.filter_eq_self.2 (fun x hx=>by simp [hB x hx]),X8.2 (fun x hx=>by have:=hC x hx; simp; omega)]
 simp
theorem zoO(l:List Plc)(v:Int):yD l v≤toN l v∧toN l v≤l.length:=by
 unfold toN
 have h1:yD l v≤l.length:=by unfold yD; exact (Yk _).length_le
 have h2:=(Yk (fun x:Plc=>x.b==v) (l:=l.drop (yD l v))).length_le
 rw [XG] at h2
 omega
theorem zyC{bk:Plc→Int}{N:List Adr}{l:List Plc}(h:TOk bk N l){v:Int}{i:Nat}(h1:yD l v≤i)(h2:i<toN l v)(hi:i<l.length):l[i].b=v:=by
 obtain ⟨A,B,C,rfl,hA,hB,hC⟩:=h.s.split3 v
 rw [zmY hA hB hC] at h2
 rw [zoQ hA hB hC] at h1
 rw [List.getElem_append_right h1,List.getElem_append_left (by omega)]
 exact hB _ (W1 _)
theorem zBA{bk:Plc→Int}{N:List Adr}{l:List Plc}(h:TOk bk N l){i:Nat}(hi:i<l.length):zak l[i].b (zaP l i)≤7:=by
 have key:∀ v,l[i].b=v→zak v l=zak v (zaP l i)+1:=by
  intro v hv
  have e:l=l.take i++(l[i]::l.drop (i+1)):=by rw [← WP hi,Ym]
  refine (congrArg (zak v) e).trans ?_
  unfold zak zaP
  rw [XZ,XZ,List.filter_cons,if_pos (by simp [hv])]
  simp
  omega
 have hc:=h.c l[i].b
 have:=key _ rfl
 omega
def zbk(e:Plc):Int × Int × Int × Int:=(e.b,e.a.h,e.a.p,e.s)
theorem zqe{α β:Type}(f:α→α)(g:α→β)(h:∀ x,g (f x)=g x):∀ (l:List α) (i:Nat),(l.modify i f).map g=l.map g
 | [],i=>by cases i <;> rfl
 | x::l,0=>by simp [List.modify,h]
 | x::l,i+1=>by simpa using zqe f g h l i
theorem zpa(l:List Plc)(i:Nat)(t:Int):(zpZ l i t).map zbk=l.map zbk:=zqe (zEe t) zbk (fun _=>rfl) l i
theorem zyz{x y x' y':Plc}(hx:zbk x=zbk x')(hy:zbk y=zbk y'):zy x.a y.a=zy x'.a y'.a:=by
 simp only [zbk,QL] at hx hy
 simp only [zy,hx.2.1,hx.2.2.1,hy.2.1,hy.2.2.1]
theorem zuE{l l':List Plc}(hk:l'.map zbk=l.map zbk){x:Plc}(hx:x∈l'):∃ y∈l,zbk y=zbk x:=by
 have:=List.mem_map_of_mem (f:=zbk) hx
 rw [hk] at this
 obtain ⟨y,h1,h2⟩:=List.mem_map.1 this
 exact ⟨y,h1,h2⟩
theorem TOk.key{bk:Plc→Int}(hbk:∀ x y,zbk x=zbk y→bk x=bk y){l l':List Plc}(h:TOk bk [] l)(hk:l'.map zbk=l.map zbk):TOk bk [] l':=by
 refine ⟨fun e he=>?_,?_,fun v=>?_,?_,by simp⟩
 ·obtain ⟨y,h1,h2⟩:=zuE hk he
  have:=h.b y h1
  rw [← hbk y e h2,← this]
  simp only [zbk,QL] at h2
  exact h2.1.symm
 ·have h1:(l.map zbk).Pairwise (fun x y=>x.1≤y.1):=Yg.2 h.s
  rw [← hk] at h1
  have h2:l'.Pairwise (fun x y=>(zbk x).1≤(zbk y).1):=(Yg (f:=zbk) (R:=fun x y=>x.1≤y.1)).1 h1
  exact h2
 ·have e:∀ m:List Plc,zak v m=((m.map zbk).filter (fun x=>x.1==v)).length:=by
   intro m
   unfold zak
   rw [List.filter_map,List.length_map]
   rfl
  rw [e,hk,← e]; exact h.c v
 ·have h1:(l.map zbk).Pairwise (fun x y=>(x.2.1==y.2.1&&x.2.2.1==y.2.2.1)=false):=Yg.2 h.n
  rw [← hk] at h1
  have h2:l'.Pairwise (fun x y=>((zbk x).2.1==(zbk y).2.1&&(zbk x).2.2.1==(zbk y).2.2.1)=false):=Yg.1 h1
  exact h2
theorem zFr(s:List Int)(x y:Plc)(h:zbk x=zbk y):hbf s x=hbf s y:=by
 simp only [zbk,QL] at h
 simp only [hbf,hbk,grp,h.2.1,h.2.2.2]
theorem zFw(s:List Int)(x y:Plc)(h:zbk x=zbk y):tbf s x=tbf s y:=by
 simp only [zbk,QL] at h
 simp only [tbf,tbk,grp,h.2.1,h.2.2.1]
structure SndB (b:Bk):Prop where
 h:TOk (hbf b.salt) [] b.H
 t:TOk (tbf b.salt) [] b.T
 d:∀ x∈b.H,∀ y∈b.T,zy y.a x.a=false
theorem zDz(l:List Plc):∀ (n:Nat) (l:List Plc),(∀ e∈l,0≤e.b∧e.b<n)→(∀ v,zak v l≤8)→l.length≤8*n
 | 0,l,h,_=>by
  cases l with
  | nil=>simp
  | cons x l=>have:=h x (by simp); omega
 | n+1,l,h,hc=>by
  have ih:=zDz l n (l.filter (fun e=>!(e.b==(n:Int)))) (fun e he=>by
   have h1:=List.mem_filter.1 he
   have h2:=h e h1.1
   have h3:¬ e.b=n:=by simpa using h1.2
   omega) (fun v=>Nat.le_trans (zrD List.filter_sublist v) (hc v))
  have h1:=hc n
  have h2:l.length=(l.filter (fun e=>e.b==(n:Int))).length+(l.filter (fun e=>!(e.b==(n:Int)))).length:=by
   clear ih hc h h1
   induction l with
   | nil=>rfl
   | cons x l ih=>by_cases hx:x.b=n <;> simp [hx] <;> omega
  unfold zak at h1
  omega
theorem TOk.len{bk:Plc→Int}{N:List Adr}{l:List Plc}(h:TOk bk N l)(hb:∀ e,0≤bk e∧bk e<64):l.length≤512:=
 zDz l 64 l (fun e he=>by have:=hb e; rw [h.b e he]; exact this) h.c
theorem SndB.lenH{b:Bk}(h:SndB b):b.H.length≤512:=h.h.len (zyP _)
theorem SndB.lenT{b:Bk}(h:SndB b):b.T.length≤512:=h.t.len (zyM _)
theorem zfO(b:Bk):zjr b=true↔SndB b:=by
 unfold zjr
 rw [zoD,zoD]
 simp only [Bool.and_eq_true,decide_eq_true_eq,zyd _ _ _ _ (TOk.nil _ _),XE,List.all_eq_true,Bool.not_eq_true',List.any_eq_false,Bool.not_eq_true]
 constructor
 ·rintro ⟨⟨_,h1⟩,⟨_,h2⟩,h3⟩
  exact ⟨h1,h2,h3⟩
 ·intro h
  exact ⟨⟨h.lenH,h.h⟩,⟨h.lenT,h.t⟩,h.d⟩
theorem zyW{l:List Plc}{a:Adr}(h:¬ zcb (fun x=>zy x.a a) l 0≥0):∀ x∈l,zy x.a a=false:=by
 rcases znG (fun x:Plc=>zy x.a a) l 0 with ⟨h1,h2⟩ | ⟨j,hj,h1,h2,h3⟩
 ·exact h2
 ·omega
theorem ziz(l:List Plc)(a z:Nat):∀ (n i m:Nat),a≤i→i+n≤z→a≤m→m<z→a≤zcG l n i m∧zcG l n i m<z
 | 0,i,m,_,_,h1,h2=>⟨h1,h2⟩
 | n+1,i,m,h0,h,h1,h2=>by
  rw [zcG]
  split
  ·exact ziz l a z n (i+1) i (by omega) (by omega) (by omega) (by omega)
  ·exact ziz l a z n (i+1) m (by omega) (by omega) h1 h2
theorem ztR{b:Bk}(h:SndB b)(a:Adr)(src:Int):SndB (zc8 b a src).1:=by
 unfold zc8
 split
 ·refine ⟨h.h,h.t.key (zFw _) (zpa _ _ _),fun x hx y hy=>?_⟩
  obtain ⟨z,h1,h2⟩:=zuE (zpa _ _ _) hy
  rw [← zyz h2 (rfl:zbk x=zbk x)]
  exact h.d x hx z h1
 ·rename_i hT
  split
  ·refine ⟨h.h.key (zFr _) (zpa _ _ _),h.t,fun x hx y hy=>?_⟩
   obtain ⟨z,h1,h2⟩:=zuE (zpa _ _ _) hx
   rw [← zyz (rfl:zbk y=zbk y) h2]
   exact h.d z h1 y hy
  ·rename_i hH
   have nT:=zyW hT
   have nH:=zyW hH
   have dd:∀ (l':List Plc),l'.Sublist b.H→∀ x∈zhQ l' ⟨hbk b.salt a src,a,src⟩,∀ y∈b.T,zy y.a x.a=false:=by
    intro l' hl' x hx y hy
    rcases zrv hx with rfl | hx
    ·exact nT y hy
    ·exact h.d x (hl'.subset hx) y hy
   split
   ·rename_i h8
    split
    ·exact h
    ·have hr:=zoO b.H (hbk b.salt a src)
     have hm:=ziz b.H (yD b.H (hbk b.salt a src)) (toN b.H (hbk b.salt a src)) (toN b.H (hbk b.salt a src)-yD b.H (hbk b.salt a src)) (yD b.H (hbk b.salt a src)) (yD b.H (hbk b.salt a src)) (Wq _) (by omega) (Wq _) (by omega)
     generalize zcG b.H (toN b.H (hbk b.salt a src)-yD b.H (hbk b.salt a src)) (yD b.H (hbk b.salt a src)) (yD b.H (hbk b.salt a src))=m at hm ⊢
     have hml:m<b.H.length:=by omega
     have hc:=zBA h.h hml
     rw [zyC h.h hm.1 hm.2 hml] at hc
     exact ⟨(h.h.sub (zdr _ _)).ins rfl hc (fun x hx=>nH x ((zdr _ _).subset hx)) (by simp),h.t,dd _ (zdr _ _)⟩
   ·rename_i h8
    rw [zzQ h.h] at h8
    exact ⟨h.h.ins rfl (by show zak (hbk b.salt a src) b.H≤7; omega) nH (by simp),h.t,dd _ (List.Sublist.refl _)⟩
theorem zC6{l:List Plc}(h:l.Pairwise (fun x y=>zy x.a y.a=false)){i:Nat}(hi:i<l.length):∀ x∈zaP l i,zy x.a l[i].a=false:=by
 intro x hx
 have hp:=List.pairwise_iff_getElem.1 h
 unfold zaP at hx
 rcases QC.1 hx with hx | hx
 ·obtain ⟨j,hj,rfl⟩:=List.mem_take_iff_getElem.1 hx
  exact hp j i (by omega) hi (by omega)
 ·obtain ⟨j,hj,rfl⟩:=List.mem_drop_iff_getElem.1 hx
  rw [zgI]
  exact hp i (i+1+j) hi (by omega) (by omega)
theorem zGr(v:Int)(a:Adr)(s:Int):(⟨v,a,s⟩:Plc).b=v:=rfl
theorem zGc(v:Int)(a:Adr)(s:Int):(⟨v,a,s⟩:Plc).a=a:=rfl
theorem zvS(b:Bk)(e:Plc):(zeO b e).b=tbk b.salt e.a:=by unfold zeO; exact zGr _ _ _
theorem zpj(b:Bk)(e:Plc):(zeO b e).a=e.a:=by unfold zeO; exact zGc _ _ _
theorem zE7(s:List Int)(e:Plc):tbf s e=tbk s e.a:=by unfold tbf; rfl
theorem zDG{b:Bk}(h:SndB b){i:Nat}(hi:i<b.H.length):SndB (zrW b i b.H[i]):=by
 have hH:=h.h.sub (zdr b.H i)
 have hn:=zC6 h.h.n hi
 have hd:∀ y∈b.T,zy y.a b.H[i].a=false:=fun y hy=>h.d _ (W1 hi) y hy
 have dd:∀ (l':List Plc),l'.Sublist b.T→∀ x∈zaP b.H i,∀ y∈zhQ l' (zeO b b.H[i]),zy y.a x.a=false:=by
  intro l' hl' x hx y hy
  rcases zrv hy with rfl | hy
  ·rw [zgI,zpj]; exact hn x hx
  ·exact h.d x ((zdr _ _).subset hx) y (hl'.subset hy)
 have hp:(zeO b b.H[i]).b=tbk b.salt b.H[i].a:=zvS _ _
 have hq:(zeO b b.H[i]).b=tbf b.salt (zeO b b.H[i]):=by rw [hp,zE7,zpj]
 unfold zrW
 split
 ·rename_i h8
  have hr:=zoO b.T (tbk b.salt b.H[i].a)
  have hl:yD b.T (tbk b.salt b.H[i].a)<b.T.length:=by omega
  rw [Wb hl]
  simp only
  refine ztR ⟨hH,?_,dd _ (zdr _ _)⟩ _ _
  have hc:=zBA h.t hl
  rw [zyC h.t (Wq _) (by omega) hl] at hc
  rw [← hp] at hc
  exact (h.t.sub (zdr _ _)).ins hq hc (fun x hx=>by rw [zpj]; exact hd x ((zdr _ _).subset hx)) (by simp)
 ·rename_i h8
  rw [zzQ h.t,← hp] at h8
  exact ⟨hH,h.t.ins hq (by omega) (fun x hx=>by rw [zpj]; exact hd x hx) (by simp),dd _ (List.Sublist.refl _)⟩
def NnB(b:Bk):Prop:=(∀ e∈b.H,0≤e.a.h)∧∀ e∈b.T,0≤e.a.h
theorem zA5{l:List Plc}(h:∀ e∈l,0≤e.a.h)(i:Nat)(t:Int):∀ e∈zpZ l i t,0≤e.a.h:=by
 intro e he
 obtain ⟨y,h1,h2⟩:=zuE (zpa _ _ _) he
 simp only [zbk,QL] at h2
 rw [← h2.2.1]; exact h y h1
theorem zwN{l:List Plc}(h:∀ e∈l,0≤e.a.h){p:Plc}(hp:0≤p.a.h):∀ e∈zhQ l p,0≤e.a.h:=by
 intro e he
 rcases zrv he with rfl | he
 ·exact hp
 ·exact h e he
theorem zxx{l:List Plc}(h:∀ e∈l,0≤e.a.h)(i:Nat):∀ e∈zaP l i,0≤e.a.h:=fun e he=>h e ((zdr _ _).subset he)
theorem zzS{b:Bk}(h:NnB b){a:Adr}(ha:0≤a.h)(src:Int):NnB (zc8 b a src).1:=by
 unfold zc8
 split
 ·exact ⟨h.1,zA5 h.2 _ _⟩
 ·split
  ·exact ⟨zA5 h.1 _ _,h.2⟩
  ·split
   ·split
    ·exact h
    ·exact ⟨zwN (zxx h.1 _) ha,h.2⟩
   ·exact ⟨zwN h.1 ha,h.2⟩
theorem zDT{b:Bk}(h:NnB b){i:Nat}(hi:i<b.H.length):NnB (zrW b i b.H[i]):=by
 have hp:0≤(zeO b b.H[i]).a.h:=by rw [zpj]; exact h.1 _ (W1 hi)
 unfold zrW
 split
 ·split
  ·rename_i o ho
   exact zzS ⟨zxx h.1 _,zwN (zxx h.2 _) hp⟩ (h.2 o (List.mem_of_getElem? ho)) _
  ·exact h
 ·exact ⟨zxx h.1 _,zwN h.2 hp⟩
end
section
set_option maxRecDepth 100000
variable {β:Type}
def zr(l:List Plc):List V:=(zD l).flatten
theorem zrb(l:List Plc):∀ e∈zD l,e.length=5:=by
 intro e he
 obtain ⟨x,_,rfl⟩:=List.mem_map.1 he
 rfl
theorem z6(l:List Plc):(zr l).length=l.length*5:=by
 unfold zr; rw [xU (zrb l),zM]
theorem zkU(l m:List Plc):zr (l++m)=zr l++zr m:=by simp [zr,zD]
theorem zvi{l:List Plc}{i:Nat}(hi:i<l.length):zr l=zr (l.take i)++(l[i].v++zr (l.drop (i+1))):=by
 have e:l=l.take i++(l[i]::l.drop (i+1)):=by rw [← WP hi,Ym]
 refine (congrArg zr e).trans ?_
 rw [zkU]
 rfl
theorem zso{l:List Plc}{i j:Nat}(hi:i<l.length)(hj:j≤5):(zr l).drop (i*5+j)=l[i].v.drop j++zr (l.drop (i+1)):=by
 rw [zvi hi]
 have e:(zr (l.take i)).length=i*5:=by rw [z6,Ww]; congr 1; omega
 rw [Yi,e,WI (by omega),XE,show i*5+j-i*5=j by omega,Xv (by show j≤5; exact hj)]
theorem zqh{l:List Plc}{i j:Nat}(hi:i<l.length)(hj:j<5):(zr l)[i*5+j]?=l[i].v[j]?:=by
 have:=zso hi (Nat.le_of_lt hj)
 rw [← Yl,this,← Yl]
 rw [List.head?_append]
 cases h:(l[i].v.drop j).head? with
 | some x=>rfl
 | none=>
  rw [Yl,List.getElem?_eq_none_iff] at h
  have:l[i].v.length=5:=rfl
  omega
theorem zzE{l:List Plc}{i:Nat}(hi:i<l.length):XL 3 (XM (i*5+1) (zr l))=l[i].a.v:=by
 rw [zso hi (by omega)]; rfl
theorem zsr{l:List Plc}{i:Nat}(hi:i<l.length):XL 5 (XM (i*5) (zr l))=l[i].v:=by
 rw [show i*5=i*5+0 from rfl,zso hi (by omega)]; rfl
theorem zCR(A B x:List V)(j:Nat):zg (A++B) (A.length+j) x=A++zg B j x:=by
 unfold zg
 rw [List.take_length_add_append,Nat.add_assoc,List.drop_length_add_append]
 simp
theorem zqb{l:List Plc}{i:Nat}(hi:i<l.length)(t:Int):zg (zr l) (i*5+3) [V.sc (.int .u32 (zye l[i].a.t t))]=zr (zpZ l i t):=by
 have e:(zr (l.take i)).length=i*5:=by rw [z6,Ww]; congr 1; omega
 have eb:zpZ l i t=l.take i++(zEe t l[i]::l.drop (i+1)):=by
  unfold zpZ
  rw [List.modify_eq_take_cons_drop hi]
 rw [eb,zkU,zvi hi,← e,zCR]
 rfl
theorem zaa(l:List Plc):xe 5 l.length (zr l)=zD l:=by
 have:=zAr (zrb l) (w:=l.length) (by rw [zM]; exact Wq _)
 unfold zr
 rw [this,Xu (by rw [zM]; exact Wq _)]
theorem zvM(l:List Plc)(i:Nat)(t:Int):(zpZ l i t).length=l.length:=by unfold zpZ; simp
theorem zkP{n:Nat}{l:List Plc}(h:n=l.length):xe 5 n (zr l)=zD l:=by subst h; exact zaa l
theorem zqM(l:List Plc):(zr l).isEmpty=l.isEmpty:=by
 cases l <;> rfl
theorem zD4(L:Nat)(l:List Plc)(hl:l.length≤1000000)(v:Int)(kx:List (List V)→Int→Int→Option β):∀ (m i:Nat),i≤l.length→l.length-i<m →
  zdL L kx m (zD l) v (i:Int)=kx (zD l) v ((i+((l.drop i).takeWhile (fun x=>decide (x.b<v))).length:Nat):Int):=by
 intro m
 induction m with
 | zero=>intro i h1 h2; omega
 | succ m IH=>
  intro i h1 h2
  unfold zdL ziT
  rw [zM]
  by_cases h:i<l.length
  ·rw [zay (by omega),zbD (zbx h),xw (n:=l[i].b) rfl,yQ,WP h,Yd]
   by_cases hb:l[i].b<v
   ·rw [if_pos hb,if_pos (decide_eq_true hb),zo,zad (by omega),Yf]
    refine (IH (i+1) (by omega) (by omega)).trans ?_
    congr 2; omega
   ·rw [if_neg hb,if_neg (by simpa using hb)]; rfl
  ·rw [zaF (by omega),WI (by omega)]; rfl
theorem zFK(L:Nat)(l:List Plc)(hl:l.length≤1000000)(v f:Int)(kx:Int→Int→Option β):∀ (m i:Nat),i≤l.length→l.length-i<m →
  zcT L kx m (zD l) v f (i:Int)=kx f ((i+((l.drop i).takeWhile (fun x=>x.b==v)).length:Nat):Int):=by
 intro m
 induction m with
 | zero=>intro i h1 h2; omega
 | succ m IH=>
  intro i h1 h2
  unfold zcT zgP
  rw [zM]
  by_cases h:i<l.length
  ·rw [zay (by omega),zbD (zbx h),xw (n:=l[i].b) rfl,zR,WP h,Yd]
   by_cases hb:l[i].b=v
   ·rw [if_pos hb,if_pos (beq_iff_eq.2 hb),zo,zad (by omega),Yf]
    refine (IH (i+1) (by omega) (by omega)).trans ?_
    congr 2; omega
   ·rw [if_neg hb,if_neg (by simpa using hb)]; rfl
  ·rw [zaF (by omega),WI (by omega)]; rfl
theorem znF(L:Nat)(l:List Plc)(hl:l.length≤1000000)(hL:l.length<L)(v:Int)(k:Int→Int→Option β):yd β L (zD l) v k=k ((yD l v:Nat):Int) ((toN l v:Nat):Int):=by
 have hf:=zoO l v
 unfold yd zji zni
 rw [show ((0:Int))=((0:Nat):Int) from rfl]
 refine (zD4 L l hl v _ L 0 (by omega) (by omega)).trans ?_
 rw [XY,WB]
 refine (zFK L l hl v _ _ L (yD l v) (by omega) (by omega)).trans ?_
 rfl
theorem zq4{n m:Nat}(h:n≤1000000)(hm:m≤1000000):(n+m)*24≤yn∧n+m≤yn:=by
 simp only [yn]; omega
theorem znV(l:List Plc)(i:Nat):(zD l).take i=zD (l.take i):=by simp [zD,List.map_take]
theorem zt6(l:List Plc)(i:Nat):(zD l).drop i=zD (l.drop i):=by simp [zD,List.map_drop]
theorem zFd(p:Plc):xe 5 1 (zg [(Qe (0:Int)),(Qc (0:Int)),(Qb (0:Int)),(Qc (0:Int)),(Qc (0:Int))] 0 p.v)=zD [p]:=by
 rw [zk2 (by rfl)]; rfl
theorem zyy(l:List Plc)(i:Nat):XL (l.length-i) (XM i l)=XM i l:=Xu (by simp)
theorem zlc(L:Nat)(l:List Plc)(hl:l.length≤900000)(hL:l.length<L)(p:Plc)(k:List (List V)→Option β):zd β L (zD l) p.v k=k (zD (zhQ l p)):=by
 have hf:=zoO l p.b
 have e1:XL 5 p.v=p.v:=rfl
 unfold zd zmO
 rw [xw (n:=p.b) rfl,znF L l (by omega) hL,zM,ya (by omega),Nat.sub_zero,Yc,XY,znV,zM,ya (zq4 (by simp) (by simp; omega)),zo,XE,ya (by show 0+5≤5; omega),e1,ya ⟨rfl,by omega⟩,zFd,zM,zM,ya (zq4 (by simp; omega) (by simp)),zo,zv9,ya (by omega),zt6,znV,zM,zM,ya (zq4 (by simp; omega) (by simp; omega)),zo,zv9,zyy]
 rfl
theorem zt7(L:Nat)(l:List Plc)(hl:l.length≤900000)(i:Nat)(hi:i<l.length)(k:List (List V)→Option β):ze β L (zD l) (i:Int) k=k (zD (zaP l i)):=by
 unfold ze zmQ
 rw [zM,ya (by omega),Nat.sub_zero,Yc,XY,znV,zM,ya (zq4 (by simp) (by simp; omega)),zo,XE,zo,zad (by omega),ya (by omega),Yc,zt6,znV,zM,zM,ya (zq4 (by simp; omega) (by simp; omega)),zo,zv9,zyy]
 rfl
theorem zB7(L:Nat)(ps:List Plc)(hp:ps.length≤1000000)(a:Adr)(kr:Int→List V→Option β)(kx:List V→Option β)(k:Int→List V→Option β)(hr:∀ i b,kr i b=k i b)(hx:∀ b,kx b=k (-1) b):∀ (m i:Nat),i≤ps.length→ps.length-i<m →
  zdc zf L kr kx m ps.length (i:Int) (zr ps) a.v=k (zcb (fun e=>zy e.a a) (ps.drop i) i) (zr ps):=by
 intro m
 induction m with
 | zero=>intro i h1 h2; omega
 | succ m IH=>
  intro i h1 h2
  unfold zdc zhT
  by_cases h:i<ps.length
  ·have e1:0+XK (i:Int)*5+1=i*5+1:=by rw [Yc]; omega
   rw [zay (by omega),ya (by omega),e1,ya (by rw [z6]; omega),ya (by show 0+3≤3; omega),zzE h,zdN,zBg,WP h,zcb,zo,zad (by omega)]
   have ih:=IH (i+1) (by omega) (by omega)
   cases zy ps[i].a a with
   | true=>exact hr _ _
   | false=>exact ih
  ·rw [zaF (by omega),WI (by omega),hx]; rfl
theorem zAn(L:Nat)(ps:List Plc)(hp:ps.length≤1000000)(hL:ps.length<L)(a:Adr)(k:Int→List V→Option β):xf β L ps.length a.v (zr ps) k=k (zcb (fun e=>zy e.a a) ps 0) (zr ps):=by
 unfold xf zig zl6
 rw [show ((0:Int))=((0:Nat):Int) from rfl]
 refine (zB7 L ps hp a _ _ k (fun _ _=>rfl) (fun _=>rfl) L 0 (by omega) (by omega)).trans ?_
 rfl
theorem xc(b:Bk)(j:Nat)(h:j<32)(k:Int→Option β):cI .u8 b.v j k=k (b.salt.getD j 0):=by
 refine xw ?_ k
 have hs:=b.hs
 rw [Bk.v,Wv (by rw [zba]; omega),row,List.getElem?_map,List.getD_eq_getElem?_getD,Wb (by omega)]
 rfl
theorem zEy:∀ (s:List Int),s.length=32→row .u8 s=[V.sc (.int .u8 (s.getD 0 0)),V.sc (.int .u8 (s.getD 1 0)),V.sc (.int .u8 (s.getD 2 0)),V.sc (.int .u8 (s.getD 3 0)),V.sc (.int .u8 (s.getD 4 0)),V.sc (.int .u8 (s.getD 5 0)),V.sc (.int .u8 (s.getD 6 0)),V.sc (.int .u8 (s.getD 7 0)),V.sc (.int .u8 (s.getD 8 0)),V.sc (.int .u8 (s.getD 9 0)),V.sc (.int .u8 (s.getD 10 0)),V.sc (.int .u8 (s.getD 11 0)),V.sc (.int .u8 (s.getD 12 0)),V.sc (.int .u8 (s.getD 13 0)),V.sc (.int .u8 (s.getD 14 0)),V.sc (.int .u8 (s.getD 15 0)),V.sc (.int .u8 (s.getD 16 0)),V.sc (.int .u8 (s.getD 17 0)),V.sc (.int .u8 (s.getD 18 0)),V.sc (.int .u8 (s.getD 19 0)),V.sc (.int .u8 (s.getD 20 0)),V.sc (.int .u8 (s.getD 21 0)),V.sc (.int .u8 (s.getD 22 0)),V.sc (.int .u8 (s.getD 23 0)),V.sc (.int .u8 (s.getD 24 0)),V.sc (.int .u8 (s.getD 25 0)),V.sc (.int .u8 (s.getD 26 0)),V.sc (.int .u8 (s.getD 27 0)),V.sc (.int .u8 (s.getD 28 0)),V.sc (.int .u8 (s.getD 29 0)),V.sc (.int .u8 (s.getD 30 0)),V.sc (.int .u8 (s.getD 31 0))]
 | [x0,x1,x2,x3,x4,x5,x6,x7,x8,x9,x10,x11,x12,x13,x14,x15,x16,x17,x18,x19,x20,x21,x22,x23,x24,x25,x26,x27,x28,x29,x30,x31],_=>rfl
theorem Bk.cells(b:Bk):[V.sc (.int .u8 (b.salt.getD 0 0)),V.sc (.int .u8 (b.salt.getD 1 0)),V.sc (.int .u8 (b.salt.getD 2 0)),V.sc (.int .u8 (b.salt.getD 3 0)),V.sc (.int .u8 (b.salt.getD 4 0)),V.sc (.int .u8 (b.salt.getD 5 0)),V.sc (.int .u8 (b.salt.getD 6 0)),V.sc (.int .u8 (b.salt.getD 7 0)),V.sc (.int .u8 (b.salt.getD 8 0)),V.sc (.int .u8 (b.salt.getD 9 0)),V.sc (.int .u8 (b.salt.getD 10 0)),V.sc (.int .u8 (b.salt.getD 11 0)),V.sc (.int .u8 (b.salt.getD 12 0)),V.sc (.int .u8 (b.salt.getD 13 0)),V.sc (.int .u8 (b.salt.getD 14 0)),V.sc (.int .u8 (b.salt.getD 15 0)),V.sc (.int .u8 (b.salt.getD 16 0)),V.sc (.int .u8 (b.salt.getD 17 0)),V.sc (.int .u8 (b.salt.getD 18 0)),V.sc (.int .u8 (b.salt.getD 19 0)),V.sc (.int .u8 (b.salt.getD 20 0)),V.sc (.int .u8 (b.salt.getD 21 0)),V.sc (.int .u8 (b.salt.getD 22 0)),V.sc (.int .u8 (b.salt.getD 23 0)),V.sc (.int .u8 (b.salt.getD 24 0)),V.sc (.int .u8 (b.salt.getD 25 0)),V.sc (.int .u8 (b.salt.getD 26 0)),V.sc (.int .u8 (b.salt.getD 27 0)),V.sc (.int .u8 (b.salt.getD 28 0)),V.sc (.int .u8 (b.salt.getD 29 0)),V.sc (.int .u8 (b.salt.getD 30 0)),V.sc (.int .u8 (b.salt.getD 31 0))]=row .u8 b.salt:=(zEy b.salt b.hs).symm
theorem Bk.mk_v(b:Bk)(x y:List (List V)):[V.sc (.int .u8 (b.salt.getD 0 0)),V.sc (.int .u8 (b.salt.getD 1 0)),V.sc (.int .u8 (b.salt.getD 2 0)),V.sc (.int .u8 (b.salt.getD 3 0)),V.sc (.int .u8 (b.salt.getD 4 0)),V.sc (.int .u8 (b.salt.getD 5 0)),V.sc (.int .u8 (b.salt.getD 6 0)),V.sc (.int .u8 (b.salt.getD 7 0)),V.sc (.int .u8 (b.salt.getD 8 0)),V.sc (.int .u8 (b.salt.getD 9 0)),V.sc (.int .u8 (b.salt.getD 10 0)),V.sc (.int .u8 (b.salt.getD 11 0)),V.sc (.int .u8 (b.salt.getD 12 0)),V.sc (.int .u8 (b.salt.getD 13 0)),V.sc (.int .u8 (b.salt.getD 14 0)),V.sc (.int .u8 (b.salt.getD 15 0)),V.sc (.int .u8 (b.salt.getD 16 0)),V.sc (.int .u8 (b.salt.getD 17 0)),V.sc (.int .u8 (b.salt.getD 18 0)),V.sc (.int .u8 (b.salt.getD 19 0)),V.sc (.int .u8 (b.salt.getD 20 0)),V.sc (.int .u8 (b.salt.getD 21 0)),V.sc (.int .u8 (b.salt.getD 22 0)),V.sc (.int .u8 (b.salt.getD 23 0)),V.sc (.int .u8 (b.salt.getD 24 0)),V.sc (.int .u8 (b.salt.getD 25 0)),V.sc (.int .u8 (b.salt.getD 26 0)),V.sc (.int .u8 (b.salt.getD 27 0)),V.sc (.int .u8 (b.salt.getD 28 0)),V.sc (.int .u8 (b.salt.getD 29 0)),V.sc (.int .u8 (b.salt.getD 30 0)),V.sc (.int .u8 (b.salt.getD 31 0)),(V.sl 5 x),(V.sl 5 y)]=row .u8 b.salt++[.sl 5 x,.sl 5 y]:=by
 rw [← b.cells]; rfl
theorem zft(L:Nat)(b:Bk)(hH:b.H.length≤1000000)(hT:b.T.length≤1000000)(k:zjU β):xd β L b.v k=k (b.salt.getD 0 0) (b.salt.getD 1 0) (b.salt.getD 2 0) (b.salt.getD 3 0) (b.salt.getD 4 0) (b.salt.getD 5 0) (b.salt.getD 6 0) (b.salt.getD 7 0) (b.salt.getD 8 0) (b.salt.getD 9 0) (b.salt.getD 10 0) (b.salt.getD 11 0) (b.salt.getD 12 0) (b.salt.getD 13 0) (b.salt.getD 14 0) (b.salt.getD 15 0) (b.salt.getD 16 0) (b.salt.getD 17 0) (b.salt.getD 18 0) (b.salt.getD 19 0) (b.salt.getD 20 0) (b.salt.getD 21 0) (b.salt.getD 22 0) (b.salt.getD 23 0) (b.salt.getD 24 0) (b.salt.getD 25 0) (b.salt.getD 26 0) (b.salt.getD 27 0) (b.salt.getD 28 0) (b.salt.getD 29 0) (b.salt.getD 30 0) (b.salt.getD 31 0) b.H.length b.T.length (zr b.H) (zr b.T):=by
 unfold xd znd
 rw [ya b.len,xc b 0 (by omega),xc b 1 (by omega),xc b 2 (by omega),xc b 3 (by omega),xc b 4 (by omega),xc b 5 (by omega),xc b 6 (by omega),xc b 7 (by omega),xc b 8 (by omega),xc b 9 (by omega),xc b 10 (by omega),xc b 11 (by omega),xc b 12 (by omega),xc b 13 (by omega),xc b 14 (by omega),xc b 15 (by omega),xc b 16 (by omega),xc b 17 (by omega),xc b 18 (by omega),xc b 19 (by omega),xc b 20 (by omega),xc b 21 (by omega),xc b 22 (by omega),xc b 23 (by omega),xc b 24 (by omega),xc b 25 (by omega),xc b 26 (by omega),xc b 27 (by omega),xc b 28 (by omega),xc b 29 (by omega),xc b 30 (by omega),xc b 31 (by omega)]
 have g1:∀ k:List (List V)→Option β,cL 5 b.v 32 k=k (zD b.H):=zkX b.g32
 have g2:∀ k:List (List V)→Option β,cL 5 b.v 33 k=k (zD b.T):=zkX b.g33
 rw [g1,g2,zM,zM,ya (zq4 (by simp) hH),ya (zq4 (by simp) hT)]
 rfl
end
section
set_option maxRecDepth 100000
variable {β:Type}
theorem zpA{l:List Plc}{a:Adr}(h:zcb (fun x=>zy x.a a) l 0≥0):∃ j:Nat,j<l.length∧zcb (fun x=>zy x.a a) l 0=(j:Int):=by
 rcases znG (fun x:Plc=>zy x.a a) l 0 with ⟨h1,h2⟩ | ⟨j,hj,h1,h2,h3⟩
 ·omega
 ·exact ⟨j,hj,by rw [h1,WB]⟩
theorem at3(j:Nat):0+XK (j:Int)*5+1+2=j*5+3:=by rw [Yc]; omega
theorem cT{l:List Plc}{j:Nat}(h:j<l.length)(k:Int→Option β):cI .u32 (zr l) (j*5+3) k=k l[j].a.t:=by
 refine xw ?_ k
 rw [zqh h (by omega)]; rfl
theorem zk0{l:List Plc}{j:Nat}(h:j<l.length):zrB l j=l[j].a.t:=by
 unfold zrB; rw [Wb h]
theorem zEA(v:Int)(a:Adr)(s:Int):zg [(Qe (0:Int)),(Qc (0:Int)),(Qb (0:Int)),(Qc (0:Int)),(Qc (0:Int))] 0 (zg (zg [(Qe v),(Qc (0:Int)),(Qb (0:Int)),(Qc (0:Int)),(Qc (0:Int))] 1 a.v) 4 [(Qc s)])=(⟨v,a,s⟩:Plc).v:=rfl
theorem zpJ(p:Plc):XL 5 p.v=p.v:=rfl
theorem zCD(L:Nat)(b:Bk)(hH:b.H.length≤1000000)(z:Nat)(hz:z≤b.H.length)(b4 p:List V)(tl:Nat)(tf:List V)(kx:zkB β):∀ (m i c:Nat),i≤z→z-i<m→c<b.H.length →
  zbh xd xf za yd zd ze L kx m (z:Int) (c:Int) (i:Int) b4 0 0 0 0 0 0 0 0 0 0 0 0 0 0 0 0 0 0 0 0 0 0 0 0 0 0 0 0 0 0 0 0 [] [] (b.salt.getD 0 0) (b.salt.getD 1 0) (b.salt.getD 2 0) (b.salt.getD 3 0) (b.salt.getD 4 0) (b.salt.getD 5 0) (b.salt.getD 6 0) (b.salt.getD 7 0) (b.salt.getD 8 0) (b.salt.getD 9 0) (b.salt.getD 10 0) (b.salt.getD 11 0) (b.salt.getD 12 0) (b.salt.getD 13 0) (b.salt.getD 14 0) (b.salt.getD 15 0) (b.salt.getD 16 0) (b.salt.getD 17 0) (b.salt.getD 18 0) (b.salt.getD 19 0) (b.salt.getD 20 0) (b.salt.getD 21 0) (b.salt.getD 22 0) (b.salt.getD 23 0) (b.salt.getD 24 0) (b.salt.getD 25 0) (b.salt.getD 26 0) (b.salt.getD 27 0) (b.salt.getD 28 0) (b.salt.getD 29 0) (b.salt.getD 30 0) (b.salt.getD 31 0) b.H.length tl p (zr b.H) tf
   = kx ((zcG b.H (z-i) i c:Nat):Int) b4 0 0 0 0 0 0 0 0 0 0 0 0 0 0 0 0 0 0 0 0 0 0 0 0 0 0 0 0 0 0 0 0 [] [] (b.salt.getD 0 0) (b.salt.getD 1 0) (b.salt.getD 2 0) (b.salt.getD 3 0) (b.salt.getD 4 0) (b.salt.getD 5 0) (b.salt.getD 6 0) (b.salt.getD 7 0) (b.salt.getD 8 0) (b.salt.getD 9 0) (b.salt.getD 10 0) (b.salt.getD 11 0) (b.salt.getD 12 0) (b.salt.getD 13 0) (b.salt.getD 14 0) (b.salt.getD 15 0) (b.salt.getD 16 0) (b.salt.getD 17 0) (b.salt.getD 18 0) (b.salt.getD 19 0) (b.salt.getD 20 0) (b.salt.getD 21 0) (b.salt.getD 22 0) (b.salt.getD 23 0) (b.salt.getD 24 0) (b.salt.getD 25 0) (b.salt.getD 26 0) (b.salt.getD 27 0) (b.salt.getD 28 0) (b.salt.getD 29 0) (b.salt.getD 30 0) (b.salt.getD 31 0) b.H.length tl p (zr b.H) tf:=by
 intro m
 induction m with
 | zero=>intro i c h1 h2 h3; omega
 | succ m IH=>
  intro i c h1 h2 h3
  unfold zbh zdI
  by_cases h:i<z
  ·have hi:i<b.H.length:=by omega
   rw [zay (by omega),ya (by omega),at3,cT hi,ya (by omega),at3,cT h3,yQ,show z-i=(z-(i+1))+1 by omega,zcG,zk0 hi,zk0 h3]
   by_cases ht:b.H[i].a.t<b.H[c].a.t
   ·rw [if_pos ht,if_pos ht,zo,zad (by omega)]
    exact IH (i+1) i (by omega) (by omega) hi
   ·rw [if_neg ht,if_neg ht,zo,zad (by omega)]
    exact IH (i+1) c (by omega) (by omega) h3
  ·rw [zaF (by omega),show z-i=0 by omega]; rfl
theorem Bk.v_mk(b:Bk)(H T:List Plc):row .u8 b.salt++[V.sl 5 (zD H),V.sl 5 (zD T)]=(⟨b.salt,H,T,b.hs⟩:Bk).v:=rfl
theorem zBc(L:Nat)(hL:200000<L)(b:Bk)(hH:b.H.length≤100000)(hT:b.T.length≤100000)(a:Adr)(src:Int)(k:List V→Bool→Option β):xu β (L+100) b.v a.v src k=k (zc8 b a src).1.v (zc8 b a src).2:=by
 unfold xu zll zpC
 rw [ya (by rw [b.len]; omega),b.take,b.dem,zft _ b (by omega) (by omega),ya (by show 0+3≤3; omega),zdN,zAn _ b.T (by omega) (by omega),ya rfl,yQ]
 unfold zc8
 by_cases h:zcb (fun x=>zy x.a a) b.T 0≥0
 ·obtain ⟨j,hj,e⟩:=zpA h
  rw [if_pos h,if_pos h,e,ya (by omega),at3,cT hj,xw (n:=a.t) rfl,zo,ya (by omega),ya ⟨rfl,by rw [z6]; omega⟩,zo,zqb hj,zaa,zkP (zvM _ _ _).symm,b.mk_v,b.v_mk,Yc]
 ·rw [if_neg h,if_neg h,ya (by show 0+3≤3; omega),zAn _ b.H (by omega) (by omega),ya rfl,yQ]
  by_cases h':zcb (fun x=>zy x.a a) b.H 0≥0
  ·obtain ⟨j,hj,e⟩:=zpA h'
   rw [if_pos h',if_pos h',e,ya (by omega),at3,cT hj,xw (n:=a.t) rfl,zo,ya (by omega),ya ⟨rfl,by rw [z6]; omega⟩,zo,zqb hj,zaa,zkP (zvM _ _ _).symm,b.mk_v,b.v_mk,Yc]
  ·rw [if_neg h',if_neg h',ya (by rw [b.len]; omega),ya (by show 0+3≤3; omega),b.t32,zBC L b.salt b.hs]
   generalize hbk b.salt a src=v
   have hr:=zoO b.H v
   rw [ya (by show 0+3≤3; omega),ya ⟨rfl,by omega⟩,ya (by show 1=1∧4+1≤5; omega),ya ⟨rfl,by omega⟩,zEA,zo,xw (n:=v) rfl,zqM]
   cases he:b.H.isEmpty with
   | true=>
    have hn:b.H=[]:=by simpa using he
    have hlen:b.H.length=0:=by rw [hn]; rfl
    rw [zdm,zaa,znF _ b.H (by omega) (by omega),zo,yR (by omega) (by omega),yQ,if_neg (by omega),if_neg (by omega),ya (by show 0+5≤5; omega),zdm,zpJ,zlc _ b.H (by omega) (by omega),zaa,b.mk_v,b.v_mk]
   | false=>
    rw [zc1,zaa,znF _ b.H (by omega) (by omega),zo,yR (by omega) (by omega),yQ]
    by_cases h8:toN b.H v-yD b.H v≥8
    ·rw [if_pos (by omega),if_pos h8]
     refine (zCD (L+100) b (by omega) (toN b.H v) hr.2 a.v _ _ _ _ (L+100) (yD b.H v) (yD b.H v) hr.1 (by omega) (by omega)).trans ?_
     have hm:=ziz b.H (yD b.H v) (toN b.H v) (toN b.H v-yD b.H v) (yD b.H v) (yD b.H v) (Wq _) (by omega) (Wq _) (by omega)
     generalize zcG b.H (toN b.H v-yD b.H v) (yD b.H v) (yD b.H v)=m at hm ⊢
     have hml:m<b.H.length:=by omega
     unfold zcL
     rw [ya (by omega),at3,cT hml,xw (n:=a.t) rfl,yQ,zk0 hml]
     by_cases ht:b.H[m].a.t≥a.t
     ·rw [if_pos ht,if_pos ht,zaa,zaa,b.mk_v,b.v_mk]
     ·have hlr:(zaP b.H m).length≤b.H.length:=(zdr _ _).length_le
      rw [if_neg ht,if_neg ht,zaa,zt7 _ b.H (by omega) m hml,ya (by show 0+5≤5; omega),zpJ,zlc _ (zaP b.H m) (by omega) (by omega),zaa,b.mk_v,b.v_mk]
    ·rw [if_neg (by omega),if_neg h8,ya (by show 0+5≤5; omega),zpJ,zlc _ b.H (by omega) (by omega),zaa,b.mk_v,b.v_mk]
end
section
set_option maxRecDepth 100000
variable {β:Type}
def bk0:Bk:=⟨We 32 0,[],[],by rfl⟩
theorem zEO:We 32 (Qa (0:Int))++[(V.sl 5 ([]:List (List V))),(V.sl 5 ([]:List (List V)))]=bk0.v:=rfl
theorem zDC(b:Bk)(k:List V→Int→Option β):chk (List.length b.v=34) (cI .u8 b.v 0 fun v0=>cI .u8 b.v 1 fun v1=>cI .u8 b.v 2 fun v2=>cI .u8 b.v 3 fun v3=>cI .u8 b.v 4 fun v4=>cI .u8 b.v 5 fun v5=>cI .u8 b.v 6 fun v6=>cI .u8 b.v 7 fun v7=>cI .u8 b.v 8 fun v8=>cI .u8 b.v 9 fun v9=>cI .u8 b.v 10 fun v10=>cI .u8 b.v 11 fun v11=>cI .u8 b.v 12 fun v12=>cI .u8 b.v 13 fun v13=>cI .u8 b.v 14 fun v14=>cI .u8 b.v 15 fun v15=>cI .u8 b.v 16 fun v16=>cI .u8 b.v 17 fun v17=>cI .u8 b.v 18 fun v18=>cI .u8 b.v 19 fun v19=>cI .u8 b.v 20 fun v20=>cI .u8 b.v 21 fun v21=>cI .u8 b.v 22 fun v22=>cI .u8 b.v 23 fun v23=>cI .u8 b.v 24 fun v24=>cI .u8 b.v 25 fun v25=>cI .u8 b.v 26 fun v26=>cI .u8 b.v 27 fun v27=>cI .u8 b.v 28 fun v28=>cI .u8 b.v 29 fun v29=>cI .u8 b.v 30 fun v30=>cI .u8 b.v 31 fun v31=>cL 5 b.v 32 fun v32=>cL 5 b.v 33 fun v33=>k [V.sc (.int .u8 v0),V.sc (.int .u8 v1),V.sc (.int .u8 v2),V.sc (.int .u8 v3),V.sc (.int .u8 v4),V.sc (.int .u8 v5),V.sc (.int .u8 v6),V.sc (.int .u8 v7),V.sc (.int .u8 v8),V.sc (.int .u8 v9),V.sc (.int .u8 v10),V.sc (.int .u8 v11),V.sc (.int .u8 v12),V.sc (.int .u8 v13),V.sc (.int .u8 v14),V.sc (.int .u8 v15),V.sc (.int .u8 v16),V.sc (.int .u8 v17),V.sc (.int .u8 v18),V.sc (.int .u8 v19),V.sc (.int .u8 v20),V.sc (.int .u8 v21),V.sc (.int .u8 v22),V.sc (.int .u8 v23),V.sc (.int .u8 v24),V.sc (.int .u8 v25),V.sc (.int .u8 v26),V.sc (.int .u8 v27),V.sc (.int .u8 v28),V.sc (.int .u8 v29),V.sc (.int .u8 v30),V.sc (.int .u8 v31),(V.sl 5 v32),(V.sl 5 v33)] (0:Int))=k b.v 0:=by
 rw [ya b.len,xc b 0 (by omega),xc b 1 (by omega),xc b 2 (by omega),xc b 3 (by omega),xc b 4 (by omega),xc b 5 (by omega),xc b 6 (by omega),xc b 7 (by omega),xc b 8 (by omega),xc b 9 (by omega),xc b 10 (by omega),xc b 11 (by omega),xc b 12 (by omega),xc b 13 (by omega),xc b 14 (by omega),xc b 15 (by omega),xc b 16 (by omega),xc b 17 (by omega),xc b 18 (by omega),xc b 19 (by omega),xc b 20 (by omega),xc b 21 (by omega),xc b 22 (by omega),xc b 23 (by omega),xc b 24 (by omega),xc b 25 (by omega),xc b 26 (by omega),xc b 27 (by omega),xc b 28 (by omega),xc b 29 (by omega),xc b 30 (by omega),xc b 31 (by omega)]
 have g1:∀ k:List (List V)→Option β,cL 5 b.v 32 k=k (zD b.H):=zkX b.g32
 have g2:∀ k:List (List V)→Option β,cL 5 b.v 33 k=k (zD b.T):=zkX b.g33
 rw [g1,g2,b.mk_v,b.v_mk]
theorem zGd(e:Plc)(v:Int):zg e.v 0 [V.sc (.int .i64 v)]=(⟨v,e.a,e.s⟩:Plc).v:=rfl
theorem zGS(b:Bk)(e:Plc):zg e.v 0 [V.sc (.int .i64 (tbk b.salt e.a))]=(zeO b e).v:=by
 unfold zeO
 exact zGd e _
theorem z3(a:Adr):zg [(Qc (0:Int)),(Qb (0:Int)),(Qc (0:Int))] 0 a.v=a.v:=zk2 rfl
theorem z5(p:Plc):zg [(Qe (0:Int)),(Qc (0:Int)),(Qb (0:Int)),(Qc (0:Int)),(Qc (0:Int))] 0 p.v=p.v:=zk2 rfl
theorem at0(j:Nat):0+XK (j:Int)*5=j*5:=by rw [Yc]; omega
theorem p13(p:Plc):XL 3 (XM 1 p.v)=p.a.v:=rfl
theorem cB0(p:Plc)(k:Int→Option β):cI .i64 p.v 0 k=k p.b:=xw rfl k
theorem zFm(L:Nat)(hL:200000<L)(b:Bk)(hS:SndB b)(a:Adr)(j:Nat)(hj:j<b.H.length)(hf:zcb (fun x=>zy x.a a) b.H 0=(j:Int))(k:List V→Int→Option β):yq β (L+100) b.v a.v k=k (zrW b j b.H[j]).v 0:=by
 have hH:=hS.lenH
 have hT:=hS.lenT
 have hrl:(zaP b.H j).length≤b.H.length:=(zdr _ _).length_le
 have hne:b.H.isEmpty=false:=by
  cases he:b.H with
  | nil=>rw [he] at hj; simp at hj
  | cons x l=>rfl
 unfold yq zpd
 rw [ya (by rw [b.len]; omega),b.take,b.dem,zzT _ b (by omega) (by omega) (by omega),(zfO b).2 hS,Xg,zc1,zbw b.g32,ya (by show 0+3≤3; omega),zdN,zx9 _ b.H (by omega) (by omega),hf,yQ,if_neg (by omega),ya (by rw [b.len]; omega),zft _ b (by omega) (by omega),ya (by omega),at0,ya (by rw [z6]; omega),zsr hj,ya ⟨rfl,by omega⟩,z5,zo,zqM,hne,zc1,zaa,zt7 _ b.H (by omega) j hj,ya (by rw [b.len]; omega),ya (by show 1+3≤5; omega),b.t32,p13,zzz L b.salt b.hs,ya (by show 1=1∧0+1≤5; omega),zo,zGS,cB0,zvS,zqM]
 unfold zrW
 have hb:(zeO b b.H[j]).b=tbk b.salt b.H[j].a:=zvS _ _
 generalize zeO b b.H[j]=p at hb ⊢
 generalize tbk b.salt b.H[j].a=v at hb ⊢
 have hr:=zoO b.T v
 cases he:b.T.isEmpty with
 | true=>
  have hn:b.T=[]:=by simpa using he
  have hlen:b.T.length=0:=by rw [hn]; rfl
  rw [zdm,zaa,znF _ b.T (by omega) (by omega),zo,yR (by omega) (by omega),yQ,if_neg (by omega),if_neg (by omega),ya (by show 0+5≤5; omega),zdm,zpJ,zlc _ b.T (by omega) (by omega),yQ,if_neg (by omega),b.mk_v,b.v_mk]
 | false=>
  rw [zc1,zaa,znF _ b.T (by omega) (by omega),zo,yR (by omega) (by omega),yQ]
  by_cases h8:toN b.T v-yD b.T v≥8
  ·have hl:yD b.T v<b.T.length:=by omega
   have hrt:(zaP b.T (yD b.T v)).length≤b.T.length:=(zdr _ _).length_le
   have hil:(zhQ (zaP b.T (yD b.T v)) p).length≤b.T.length+1:=by
    unfold zhQ
    simp only [Wm,Ww,XG,List.length_singleton]
    omega
   rw [if_pos (by omega),if_pos h8,ya (by omega),at0,ya (by rw [z6]; omega),zzE hl,ya ⟨rfl,by omega⟩,z3,zo,zt7 _ b.T (by omega) _ hl,ya (by show 0+5≤5; omega),zpJ,zlc _ (zaP b.T (yD b.T v)) (by omega) (by omega),yQ,if_pos (by omega),ya (by show 0+3≤3; omega),ya (by show 0+3≤3; omega),zdN,zr4,b.mk_v,b.v_mk,zBc L hL _ (by show (zaP b.H j).length≤100000; omega) (by show (zhQ (zaP b.T (yD b.T v)) p).length≤100000; omega)]
   rw [Wb hl]
   exact zDC _ k
  ·rw [if_neg (by omega),if_neg h8,ya (by show 0+5≤5; omega),zpJ,zlc _ b.T (by omega) (by omega),yQ,if_neg (by omega),b.mk_v,b.v_mk]
theorem z34(z:List V)(hz:z.length=34)(b:Bk):zg z 0 b.v=b.v:=zk2 (by rw [b.len,hz])
theorem zDS(L:Nat)(hL:200000<L)(b:Bk)(hS:SndB b)(a:Adr)(src:Int)(k:List V→Bool→Int→Option β):xo β (L+100) b.v a.v src k=k (zc8 b a src).1.v (zc8 b a src).2 0:=by
 have hH:=hS.lenH
 have hT:=hS.lenT
 unfold xo zof
 rw [ya (by rw [b.len]; omega),b.take,b.dem,zzT _ b (by omega) (by omega) (by omega),(zfO b).2 hS,Xg,zc1,ya (by rw [b.len]; omega),ya (by show 0+3≤3; omega),zdN,zBc L hL b (by omega) (by omega)]
 generalize (zc8 b a src).1=b'
 generalize (zc8 b a src).2=r
 rw [ya ⟨b'.len,by omega⟩,z34 _ (by simp),zo,ya (by rw [b'.len]; omega),b'.take,ya ⟨b'.len,by omega⟩,z34 _ (by simp),zo,ya ⟨rfl,b'.len,by omega⟩]
end
section
set_option maxRecDepth 100000
theorem zwA(L:Nat)(v n:Int)(hn:1≤n)(hn2:n≤1000000000000):∃ r,0≤r∧r<n∧∀ (β:Type) (k:Int→Option β),xI β L v n k=k r:=by
 by_cases h:Int.tmod v n<0
 ·have h1:=Int.lt_tmod_of_pos v (show 0<n by omega)
  refine ⟨Int.tmod v n+n,by omega,by omega,fun β k=>?_⟩
  simp only [xI,zoR,zo]
  rw [ya (by omega),zay h,yR (by omega) (by omega)]
 ·have h1:=Int.tmod_lt_of_pos v (show 0<n by omega)
  refine ⟨Int.tmod v n,by omega,h1,fun β k=>?_⟩
  simp only [xI,zoR,zo]
  rw [ya (by omega),zaF h]
structure Dk where
 l:List Int
 a:Int
 h0:0≤a
 h1:a≤l.length
 hl:l.length≤9223372036854775807
def Dk.es(d:Dk):List (List V):=zao .i64 d.l
theorem zhB(L:Nat)(d:Dk)(n:Int)(hn:1≤n)(hn2:n≤1000000000000):∃ (r:Int) (d':Dk),d'.l=d.l∧0≤r∧r<n∧∀ (β:Type) (k:Int→List (List V)→Int→Option β),ye β L n d.es d.a k=k r d'.es d'.a:=by
 obtain ⟨l,a,h0,h1,hl⟩:=d
 simp only [Dk.es]
 by_cases h:a<l.length
 ·obtain ⟨i,rfl⟩:∃ i:Nat,a=i:=⟨a.toNat,by omega⟩
  have hi:i<l.length:=by omega
  obtain ⟨r,q1,q2,q3⟩:=zwA L l[i] n hn hn2
  refine ⟨r,⟨l,i+1,by omega,by omega,hl⟩,rfl,q1,q2,fun β k=>?_⟩
  simp only [ye,zgV,yN,zg2,zo,zd4]
  have w1:QF .i64 ((i:Int)+1)=(i:Int)+1:=yR (by omega) (by omega)
  have w2:QF .i64 ((i:Int)+1-1)=(i:Int):=by rw [yR (by omega) (by omega)]; omega
  rw [zAK,if_pos (by omega),w1,w2,zbD (zv4 _ hi),xw (by rfl),q3]
 ·refine ⟨0,⟨l,a,h0,h1,hl⟩,rfl,by omega,by omega,fun β k=>?_⟩
  simp only [ye,zgV,yN,zg2,zo,zd4]
  rw [zAK,if_neg (by omega)]
theorem zFf(L:Nat)(d:Dk):∃ (id:List Int) (d':Dk),d'.l=d.l∧id.length=32∧∀ (β:Type) (k:List V→List (List V)→Int→Option β),zt β L d.es d.a k=k (row .u8 id) d'.es d'.a:=by
 obtain ⟨r,d1,e1,_,_,q1⟩:=zhB L d 5 (by omega) (by omega)
 obtain ⟨s,d2,e2,_,_,q2⟩:=zhB L d1 7 (by omega) (by omega)
 refine ⟨QF .u8 r::(We 30 0++[QF .u8 s]),d2,by rw [e2,e1],by simp,fun β k=>?_⟩
 simp only [zt,zqP,q1,q2,zo]
 rw [ya (by simp)]
 rfl
theorem zE0(n:Int):0≤QF .u32 n:=by
 unfold QF
 simp only [IntKind.signed,Bool.false_and,Bool.false_eq_true,if_false,IntKind.bits]
 exact Int.emod_nonneg n (by decide)
theorem zFb(L:Nat)(d:Dk):∃ (a:Adr) (d':Dk),d'.l=d.l∧0≤a.h∧∀ (β:Type) (k:List V→List (List V)→Int→Option β),yt β L d.es d.a k=k a.v d'.es d'.a:=by
 obtain ⟨r1,d1,e1,_,_,q1⟩:=zhB L d 6 (by omega) (by omega)
 obtain ⟨r2,d2,e2,_,_,q2⟩:=zhB L d1 5 (by omega) (by omega)
 obtain ⟨r3,d3,e3,_,_,q3⟩:=zhB L d2 2 (by omega) (by omega)
 obtain ⟨r4,d4,e4,_,_,q4⟩:=zhB L d3 50 (by omega) (by omega)
 refine ⟨⟨QF .u32 (zqB .u32 (QF .u32 r1) 16+QF .u32 r2),QF .u16 r3,QF .u32 r4⟩,d4,by rw [e4,e3,e2,e1],zE0 _,fun β k=>?_⟩
 simp only [yt,zqN,q1,q2,q3,q4,zo]
 rw [ya (by simp)]
 rfl
theorem zDQ(A B r:List V)(h:A.length=r.length):zg (A++B) 0 r=r++B:=by
 unfold zg
 rw [List.take_zero,WB,Yj h,XE]
def Bk.new(s:List Int)(h:s.length=32):Bk:=⟨s,[],[],h⟩
theorem zA8(s:List Int)(h:s.length=32):SndB (Bk.new s h):=⟨TOk.nil _ _,TOk.nil _ _,fun x hx=>by cases hx⟩
def z34g:List V:=We 32 (Qa (0:Int))++[(V.gs 5 ([]:List (List V))),(V.gs 5 ([]:List (List V)))]
theorem zzU:z34g.length=34:=by simp [z34g]
theorem zDD{b:Bk}{i:Nat}(hi:i<b.H.length):∃ j:Nat,j<b.H.length∧zcb (fun x=>zy x.a b.H[i].a) b.H 0=(j:Int):=by
 refine zpA ?_
 have:=zBm (fun x:Plc=>zy x.a b.H[i].a) b.H 0
 have h2:b.H.any (fun x=>zy x.a b.H[i].a)=true:=List.any_eq_true.2 ⟨b.H[i],W1 hi,zrZ _⟩
 rw [h2] at this
 exact of_decide_eq_true this
theorem zCW(L:Nat)(hL:200000<L):∀ (c m:Nat) (b:Bk) (d:Dk),c<m→c≤1000→SndB b→NnB b→∃ (b':Bk) (d':Dk),d'.l=d.l∧SndB b'∧NnB b'∧∀ (β:Type) (kx:List (List V)→Int→List V→List V→Option β),zbG zt ye yq yt xo (L+100) kx m (c:Int) d.es d.a z34g b.v=kx d'.es d'.a z34g b'.v:=by
 intro c
 induction c with
 | zero=>
  intro m b d hm hc hS hN
  refine ⟨b,d,rfl,hS,hN,fun β kx=>?_⟩
  obtain ⟨m,rfl⟩:∃ q,m=q+1:=⟨m-1,by omega⟩
  simp only [zbG,zdo]
  rw [zaF (by omega)]
 | succ c IH=>
  intro m b d hm hc hS hN
  obtain ⟨m,rfl⟩:∃ q,m=q+1:=⟨m-1,by omega⟩
  have hH:=hS.lenH
  have w:QF .i64 (((c+1:Nat):Int)-1)=(c:Int):=by rw [yR (by omega) (by omega)]; omega
  obtain ⟨r0,d0,e0,g1,g2,q0⟩:=zhB (L+100) d 4 (by omega) (by omega)
  by_cases h0:r0=0
  ·by_cases hp:0<b.H.length
   ·obtain ⟨r1,d1,e1,g3,g4,q1⟩:=zhB (L+100) d0 (b.H.length:Int) (by omega) (by omega)
    obtain ⟨i,rfl⟩:∃ i:Nat,r1=i:=⟨r1.toNat,by omega⟩
    have hi:i<b.H.length:=by omega
    obtain ⟨j,hj,hf⟩:=zDD hi
    obtain ⟨b',d',e',hS',hN',q'⟩:=IH m (zrW b j b.H[j]) d1 (by omega) (by omega) (zDG hS hj) (zDT hN hj)
    refine ⟨b',d',by rw [e',e1,e0],hS',hN',fun β kx=>?_⟩
    simp only [zbG,zdo,q0]
    rw [zay (by omega),zR,if_pos h0,zbw b.g32,zM,zay (by omega),ya (by rw [b.len]; omega),zbw b.g32,zbw b.g32,zM,q1,zbD (zbx hi),b.take,b.dem,p13,zFm L hL b hS _ j hj hf,ya ⟨Bk.len _,by rw [b.len]; omega⟩,z34 _ b.len,zo,zo,w]
    exact q' β kx
   ·obtain ⟨b',d',e',hS',hN',q'⟩:=IH m b d0 (by omega) (by omega) hS hN
    refine ⟨b',d',by rw [e',e0],hS',hN',fun β kx=>?_⟩
    simp only [zbG,zdo,q0]
    rw [zay (by omega),zR,if_pos h0,zbw b.g32,zM,zaF (by omega),zo,w]
    exact q' β kx
  ·obtain ⟨a,d1,e1,ha,q1⟩:=zFb (L+100) d0
   obtain ⟨r2,d2,e2,_,_,q2⟩:=zhB (L+100) d1 4 (by omega) (by omega)
   obtain ⟨b',d',e',hS',hN',q'⟩:=IH m (zc8 b a (QF .u32 r2)).1 d2 (by omega) (by omega) (ztR hS _ _) (zzS hN ha _)
   refine ⟨b',d',by rw [e',e2,e1,e0],hS',hN',fun β kx=>?_⟩
   simp only [zbG,zdo,q0,q1,q2]
   rw [zay (by omega),zR,if_neg h0,ya (by rw [b.len]; omega),zo,b.take,b.dem,zDS L hL b hS,ya ⟨Bk.len _,by rw [b.len]; omega⟩,z34 _ b.len,zo,zo,w]
   exact q' β kx
theorem zEX(L:Nat)(hL:200000<L)(d:Dk):∃ (b:Bk) (d':Dk),d'.l=d.l∧SndB b∧NnB b∧∀ (β:Type) (k:List V→List (List V)→Int→Option β),zam β (L+100) d.es d.a k=k b.v d'.es d'.a:=by
 obtain ⟨s,d1,e1,hs,q1⟩:=zFf (L+100) d
 obtain ⟨r,d2,e2,g1,g2,q2⟩:=zhB (L+100) d1 40 (by omega) (by omega)
 obtain ⟨c,rfl⟩:∃ c:Nat,r=c:=⟨r.toNat,by omega⟩
 obtain ⟨b',d',e',hS',hN',q'⟩:=zCW L hL c (L+100) (Bk.new s hs) d2 (by omega) (by omega) (zA8 s hs) ⟨fun e he=>(by cases he),fun e he=>(by cases he)⟩
 refine ⟨b',d',by rw [e',e2,e1],hS',hN',fun β k=>?_⟩
 simp only [zam,znt,zqy,q1,q2]
 have es:zg (We 32 (Qa (0:Int))++[(V.sl 5 ([]:List (List V))),(V.sl 5 ([]:List (List V)))]) 0 (row .u8 s)=(Bk.new s hs).v:=by
  rw [zDQ _ _ _ (by simp [zba,hs])]; rfl
 rw [ya (by rw [zba,hs]; omega),es,ya ⟨Bk.len _,by omega⟩,z34 _ (by simp),zo]
 refine (q' β _).trans ?_
 unfold zjb
 rw [ya (by rw [b'.len]; omega),b'.take,ya ⟨b'.len,by rw [zzU]; omega⟩,z34 _ zzU,zo,ya ⟨rfl,b'.len,by omega⟩]
end
section
set_option maxRecDepth 100000
variable {β:Type}
theorem zz7(L:Nat)(l:List Plc)(hl:l.length≤1000000)(k:List (List V)→Option β):zl β L (zD l) k=k (zD l):=by
 simp only [zl,zbY]
 have hp:=zrb l
 have hlen:=zM l
 generalize zD l=q at hp hlen
 cases q with
 | nil=>rfl
 | cons h t=>
  simp only [lc]
  rw [ya (by rw [hlen]; exact zq4 (by omega) hl),ya (.inl (by simp)),zvy hp]
theorem zBJ(L:Nat)(b:Bk)(hH:b.H.length≤1000000)(hT:b.T.length≤1000000)(k:zgL β):zK β L b.v k=k (b.salt.getD 0 0) (b.salt.getD 1 0) (b.salt.getD 2 0) (b.salt.getD 3 0) (b.salt.getD 4 0) (b.salt.getD 5 0) (b.salt.getD 6 0) (b.salt.getD 7 0) (b.salt.getD 8 0) (b.salt.getD 9 0) (b.salt.getD 10 0) (b.salt.getD 11 0) (b.salt.getD 12 0) (b.salt.getD 13 0) (b.salt.getD 14 0) (b.salt.getD 15 0) (b.salt.getD 16 0) (b.salt.getD 17 0) (b.salt.getD 18 0) (b.salt.getD 19 0) (b.salt.getD 20 0) (b.salt.getD 21 0) (b.salt.getD 22 0) (b.salt.getD 23 0) (b.salt.getD 24 0) (b.salt.getD 25 0) (b.salt.getD 26 0) (b.salt.getD 27 0) (b.salt.getD 28 0) (b.salt.getD 29 0) (b.salt.getD 30 0) (b.salt.getD 31 0) b.H.length b.T.length (zr b.H) (zr b.T):=by
 unfold zK zjS
 rw [ya b.len,xc b 0 (by omega),xc b 1 (by omega),xc b 2 (by omega),xc b 3 (by omega),xc b 4 (by omega),xc b 5 (by omega),xc b 6 (by omega),xc b 7 (by omega),xc b 8 (by omega),xc b 9 (by omega),xc b 10 (by omega),xc b 11 (by omega),xc b 12 (by omega),xc b 13 (by omega),xc b 14 (by omega),xc b 15 (by omega),xc b 16 (by omega),xc b 17 (by omega),xc b 18 (by omega),xc b 19 (by omega),xc b 20 (by omega),xc b 21 (by omega),xc b 22 (by omega),xc b 23 (by omega),xc b 24 (by omega),xc b 25 (by omega),xc b 26 (by omega),xc b 27 (by omega),xc b 28 (by omega),xc b 29 (by omega),xc b 30 (by omega),xc b 31 (by omega)]
 have g1:∀ k:List (List V)→Option β,cL 5 b.v 32 k=k (zD b.H):=zkX b.g32
 have g2:∀ k:List (List V)→Option β,cL 5 b.v 33 k=k (zD b.T):=zkX b.g33
 rw [g1,g2,zz7 L b.H hH,zz7 L b.T hT,zM,zM]
 rfl
theorem zEm(L:Nat)(a b:Adr)(k:Bool→Option β):zS β L a.v b.v k=k (zy a b):=by
 simp only [zS,zlD]
 rw [xw (n:=a.h) rfl,xw (n:=b.h) rfl,zR]
 by_cases h:a.h=b.h
 ·rw [if_pos h,xw (n:=a.p) rfl,xw (n:=b.p) rfl,zy,h]
  congr 1
  simp
 ·rw [if_neg h,zy,beq_eq_false_iff_ne.2 h]; rfl
theorem zDI(L:Nat)(p:Plc)(a:Adr)(k:Bool→List V→Option β):zh β L p.v a.v k=k (zy p.a a) a.v:=by
 unfold zh zjI
 rw [ya (by show 1+3≤5; omega),ya (by show 0+3≤3; omega),p13,zdN,zEm]
theorem zuw(l:List Plc)(z:List V):(zr l++z).length=l.length*5+z.length:=by rw [Wm,z6]
theorem zDK{l:List Plc}{i j:Nat}(hi:i<l.length)(hj:j<5)(z:List V):(zr l++z)[i*5+j]?=l[i].v[j]?:=by
 rw [Wv (by rw [z6]; omega),zqh hi hj]
theorem zBv(l:List Plc)(i:Nat)(hi:i≤l.length)(z:List V):(zr l++z).drop (i*5)=zr (l.drop i)++z:=by
 rw [Xv (by rw [z6]; omega)]
 congr 1
 unfold zr
 rw [zyD (zrb l),zt6]
theorem zxZ(l:List Plc)(i:Nat)(hi:i≤l.length)(z:List V):(zr l++z).take (i*5)=zr (l.take i):=by
 rw [Xx (by rw [z6]; omega)]
 unfold zr
 rw [zxA (zrb l),znV]
theorem zGq{l:List Plc}{i:Nat}(hi:i<l.length)(z:List V):XL 5 (XM (i*5) (zr l++z))=l[i].v:=by
 rw [Xv (by rw [z6]; omega),Xx (by rw [XG,z6]; omega),zsr hi]
theorem zEd{l:List Plc}{j:Nat}(h:j<l.length)(z:List V)(k:Int→Option β):cI .u32 (zr l++z) (j*5+3) k=k l[j].a.t:=by
 refine xw ?_ k
 rw [zDK h (by omega)]; rfl
theorem zFU{l:List Plc}{j:Nat}(h:j<l.length)(z:List V)(k:Int→Option β):cI .i64 (zr l++z) (j*5+0) k=k l[j].b:=by
 refine xw ?_ k
 rw [zDK h (by omega)]; rfl
theorem zyr:∀ (l:List Plc) (z:List V),xe 5 l.length (zr l++z)=zD l
 | [],z=>rfl
 | x::l,z=>by
  have e:zr (x::l)++z=x.v++(zr l++z):=by simp [zr,zD]
  rw [e,Yf,xe]
  have h:=zyr l z
  show x.v::xe 5 l.length (zr l++z)=zD (x::l)
  rw [h]; rfl
theorem fl1(p:Plc):XO (xe 5 1 p.v)=p.v:=rfl
theorem zDR(L:Nat)(ps:List Plc)(hp:ps.length≤1000000)(z:List V)(a:Adr)(kr:Int→List V→List V→Option β)(kx:List V→List V→Option β)(k:Int→List V→List V→Option β)(hr:∀ i b c,kr i b c=k i b c)(hx:∀ b c,kx b c=k (-1) b c):∀ (m i:Nat),i≤ps.length→ps.length-i<m →
  xV zh L kr kx m ps.length ((ps.length:Nat):Int) (i:Int) (zr ps++z) a.v=k (zcb (fun e=>zy e.a a) (ps.drop i) i) (zr ps++z) a.v:=by
 intro m
 induction m with
 | zero=>intro i h1 h2; omega
 | succ m IH=>
  intro i h1 h2
  unfold xV zaX
  by_cases h:i<ps.length
  ·have ih:=IH (i+1) (by omega) (by omega)
   rw [zay (by omega),ya (by omega),at0,ya (by rw [zuw]; omega),zGq h,zDI,ya rfl,WP h,zcb,zo,zad (by omega)]
   cases zy ps[i].a a with
   | true=>exact hr _ _ _
   | false=>exact ih
  ·rw [zaF (by omega),WI (by omega),hx]; rfl
theorem zFz(L:Nat)(ps:List Plc)(hp:ps.length≤1000000)(hL:ps.length<L)(z:List V)(a:Adr)(k:Int→List V→List V→Option β):xj β L ps.length (zr ps++z) a.v k=k (zcb (fun e=>zy e.a a) ps 0) (zr ps++z) a.v:=by
 unfold xj zas zbq
 rw [show ((0:Int))=((0:Nat):Int) from rfl]
 exact zDR L ps hp z a _ _ k (fun _ _ _=>rfl) (fun _ _=>rfl) L 0 (by omega) (by omega)
theorem zAG(L:Nat)(ps:List Plc)(hp:ps.length≤1000000)(hL:ps.length<L)(a:Adr)(k:Int→List V→Option β):xO β L ps.length a.v (zr ps) k=k (zcb (fun e=>zy e.a a) ps 0) (zr ps):=by
 unfold xO zlA
 have h:=fun (k:Int→List V→List V→Option β)=>zFz L ps hp hL [] a k
 simp only [Ye] at h
 rw [h,ya rfl]
theorem zFg(L:Nat)(l:List Plc)(hl:l.length≤1000000)(z:List V)(v:Int)(kx:Nat→Int→Int→List V→Option β):∀ (m i:Nat),i≤l.length→l.length-i<m →
  zcB L kx m l.length v (i:Int) (zr l++z)=kx l.length v ((i+((l.drop i).takeWhile (fun x=>decide (x.b<v))).length:Nat):Int) (zr l++z):=by
 intro m
 induction m with
 | zero=>intro i h1 h2; omega
 | succ m IH=>
  intro i h1 h2
  unfold zcB zgg
  by_cases h:i<l.length
  ·have ih:=IH (i+1) (by omega) (by omega)
   have e0:0+XK (i:Int)*5+0=i*5+0:=by rw [Yc]; omega
   rw [zay (by omega),ya (by omega),e0,zFU h,WP h,Yd,yQ,zo,zad (by omega)]
   by_cases hb:l[i].b<v
   ·rw [if_pos hb,if_pos (by simpa using hb),Yf]
    refine ih.trans ?_
    congr 2; omega
   ·rw [if_neg hb,if_neg (by simpa using hb)]; rfl
  ·rw [zaF (by omega),WI (by omega)]; rfl
theorem zGs(L:Nat)(l:List Plc)(hl:l.length≤1000000)(z:List V)(v f:Int)(kx:Int→Int→List V→Option β):∀ (m i:Nat),i≤l.length→l.length-i<m →
  zb5 L kx m l.length v f (i:Int) (zr l++z)=kx f ((i+((l.drop i).takeWhile (fun x=>x.b==v)).length:Nat):Int) (zr l++z):=by
 intro m
 induction m with
 | zero=>intro i h1 h2; omega
 | succ m IH=>
  intro i h1 h2
  unfold zb5 ze8
  by_cases h:i<l.length
  ·have ih:=IH (i+1) (by omega) (by omega)
   have e0:0+XK (i:Int)*5+0=i*5+0:=by rw [Yc]; omega
   rw [zay (by omega),ya (by omega),e0,zFU h,WP h,Yd,zR,zo,zad (by omega)]
   by_cases hb:l[i].b=v
   ·rw [if_pos hb,if_pos (by simpa using hb),Yf]
    refine ih.trans ?_
    congr 2; omega
   ·rw [if_neg hb,if_neg (by simpa using hb)]; rfl
  ·rw [zaF (by omega),WI (by omega)]; rfl
theorem zBE(L:Nat)(l:List Plc)(hl:l.length≤1000000)(hL:l.length<L)(z:List V)(v:Int)(k:Int→Int→List V→Option β):zi β L l.length v (zr l++z) k=k ((yD l v:Nat):Int) ((toN l v:Nat):Int) (zr l++z):=by
 unfold zi zfU zjQ
 rw [show ((0:Int))=((0:Nat):Int) from rfl]
 refine (zFg L l hl z v _ L 0 (by omega) (by omega)).trans ?_
 have hf:=zoO l v
 have e:0+((l.drop 0).takeWhile (fun x=>decide (x.b<v))).length=yD l v:=by rw [XY,WB]; rfl
 rw [e]
 unfold zcX zfc
 refine (zGs L l hl z v _ _ L (yD l v) (by omega) (by omega)).trans ?_
 rfl
theorem zBb(L:Nat)(l:List Plc)(hl:l.length≤1000000)(z:List V)(i:Nat)(hi:i≤l.length)(p:Plc)(k:List (List V)→Nat→List V→Option β):xa β L l.length (i:Int) 1 (zr l++z) p.v k=k (zD (l.take i++[p]++l.drop i)) (zr l++z).length p.v:=by
 have hlen:(l.take i++[p]++l.drop i).length=l.length+1:=by simp; omega
 have e:zmN 5 l.length 1 i (zr l++z) p.v=zD (l.take i++[p]++l.drop i):=by
  unfold zmN
  rw [zxZ l i hi,zxZ l l.length (Wq _),Xu (Wq _)]
  have h2:=zBv l i hi []
  rw [Ye,Ye] at h2
  rw [h2]
  have h1:p.v=zr [p]:=by simp [zr,zD]
  rw [h1,← zkU,← zkU]
  exact zkP hlen.symm
 unfold xa
 rw [ya ⟨by omega,by omega,by omega,by rw [zuw]; omega,rfl,(zq4 hl (by omega)).1,(zq4 hl (by omega)).2⟩,Yc,e]
theorem zFi(L:Nat)(l:List Plc)(hl:l.length≤1000000)(z:List V)(i:Nat)(hi:i<l.length):∃ z':List V,z'.length=z.length+5∧∀ (β:Type) (k:Nat→List V→Option β),zb β L l.length (i:Int) ((i+1:Nat):Int) (zr l++z) k=k (zaP l i).length (zr (zaP l i)++z'):=by
 have hrl:(zaP l i).length=l.length-1:=by unfold zaP; simp; omega
 have hd:XM (0+(i+1)*5) (zr l++z)=zr (l.drop (i+1))++z:=by rw [WB]; exact zBv l (i+1) (by omega) z
 have hcl:(l.drop (i+1)).length=l.length-(i+1):=by simp
 have hch:xe 5 (l.length-(i+1)) (XM (0+(i+1)*5) (zr l++z))=zD (l.drop (i+1)):=by rw [hd,← hcl]; exact zyr _ z
 obtain ⟨w,hw⟩:∃ w,w=XM (i*5+(zr (l.drop (i+1))).length) (zr l++z):=⟨_,rfl⟩
 have hr2:zg (zr l++z) (i*5) (XO (zD (l.drop (i+1))))=zr (zaP l i)++w:=by
  unfold zg zaP
  rw [zxZ l i (by omega),zkU]
  show zr (l.take i)++zr (l.drop (i+1))++XM (i*5+(zr (l.drop (i+1))).length) (zr l++z)=_
  rw [← hw]
 have hwl:w.length=z.length+5:=by
  rw [hw,XG,zuw,z6,hcl]; omega
 have hend:i+(l.length-(i+1))=l.length-1:=by omega
 refine ⟨XO (We 1 [(V.sc (.int .i64 (0:Int))),(V.sc (.int .u32 (0:Int))),(V.sc (.int .u16 (0:Int))),(V.sc (.int .u32 (0:Int))),(V.sc (.int .u32 (0:Int)))])++w.drop 5,by simp [hwl],fun β k=>?_⟩
 have hr3:zg (zr (zaP l i)++w) (0+(l.length-1)*5) (XO (We 1 [(V.sc (.int .i64 (0:Int))),(V.sc (.int .u32 (0:Int))),(V.sc (.int .u16 (0:Int))),(V.sc (.int .u32 (0:Int))),(V.sc (.int .u32 (0:Int)))]))=zr (zaP l i)++(XO (We 1 [(V.sc (.int .i64 (0:Int))),(V.sc (.int .u32 (0:Int))),(V.sc (.int .u16 (0:Int))),(V.sc (.int .u32 (0:Int))),(V.sc (.int .u32 (0:Int)))])++w.drop 5):=by
  have hl5:(zr (zaP l i)).length=(l.length-1)*5:=by rw [z6,hrl]
  unfold zg
  rw [WB,Xx (by omega),Xu (by omega),Yi,WI (by omega),XE,hl5,List.append_assoc]
  congr 3
  simp
 unfold zb zbL
 simp only [Yc,hch,zM,hcl,hend,zo,hr2]
 rw [ya (by omega),ya (by omega),ya (by omega),zaF (by omega),zR,if_neg (by omega),ya (by omega),ya (by omega),ya (by omega),ya (by omega),ya (by omega),show l.length-(l.length-1)=1 by omega,hr3,hrl]
end
section
set_option maxRecDepth 100000
variable {β:Type}
def zj4(s:List Int)(H:List Plc)(a:Adr)(src:Int):List Plc × Bool:=
 if toN H (hbk s a src)-yD H (hbk s a src)≥8 then
  (if zrB H (zcG H (toN H (hbk s a src)-yD H (hbk s a src)) (yD H (hbk s a src)) (yD H (hbk s a src)))≥a.t then (H,false)
   else (zhQ (zaP H (zcG H (toN H (hbk s a src)-yD H (hbk s a src)) (yD H (hbk s a src)) (yD H (hbk s a src)))) ⟨hbk s a src,a,src⟩,true))
 else (zhQ H ⟨hbk s a src,a,src⟩,true)
theorem zAQ(b:Bk)(a:Adr)(src:Int)(h1:¬ zcb (fun x=>zy x.a a) b.T 0≥0)(h2:¬ zcb (fun x=>zy x.a a) b.H 0≥0):zc8 b a src=(⟨b.salt,(zj4 b.salt b.H a src).1,b.T,b.hs⟩,(zj4 b.salt b.H a src).2):=by
 unfold zc8 zj4
 rw [if_neg h1,if_neg h2]
 split
 ·split <;> rfl
 ·rfl
theorem zCF(A B C:List Plc){j:Nat}(hj:j<B.length):zaP (A++(B++C)) (A.length+j)=A++(zaP B j++C):=by
 unfold zaP
 rw [List.take_append,Xu (by omega),show A.length+j-A.length=j by omega,Xx (by omega)]
 rw [show A.length+j+1=A.length+(j+1) by omega,Yi,WI (by omega),XE,show A.length+(j+1)-A.length=j+1 by omega,Xv (by omega)]
 simp
theorem zF5{l:List Plc}{v:Int}(h:Srt l){m:Nat}(h1:yD l v≤m)(h2:m<toN l v):toN (zaP l m) v=toN l v-1:=by
 obtain ⟨A,B,C,rfl,hA,hB,hC⟩:=h.split3 v
 rw [zoQ hA hB hC] at h1
 rw [zmY hA hB hC] at h2
 obtain ⟨j,rfl⟩:∃ j,m=A.length+j:=⟨m-A.length,by omega⟩
 have hj:j<B.length:=by omega
 have hBl:(zaP B j).length=B.length-1:=by unfold zaP; simp; omega
 rw [zCF A B C hj,zmY hA hB hC,zmY hA (fun x hx=>hB x ((zdr B j).subset hx)) hC,hBl]
 omega
theorem zFQ(l:List Plc)(n i:Nat):zcG l (n+1) i i=zcG l n (i+1) i:=by
 rw [zcG]
 congr 1
 split <;> rfl
theorem zCP(L:Nat)(b:Bk)(hH:b.H.length≤1000000)(z:Nat)(hz:z≤b.H.length)(zs b1 p:List V)(src v:Int)(tl:Nat)(kx:ziJ β):∀ (m i c:Nat),i≤z→z-i<m→c<b.H.length →
  zbr xb zi xa zb L kx m src v (z:Int) (c:Int) (i:Int) (zr b.H++zs) b1 (b.salt.getD 0 0) (b.salt.getD 1 0) (b.salt.getD 2 0) (b.salt.getD 3 0) (b.salt.getD 4 0) (b.salt.getD 5 0) (b.salt.getD 6 0) (b.salt.getD 7 0) (b.salt.getD 8 0) (b.salt.getD 9 0) (b.salt.getD 10 0) (b.salt.getD 11 0) (b.salt.getD 12 0) (b.salt.getD 13 0) (b.salt.getD 14 0) (b.salt.getD 15 0) (b.salt.getD 16 0) (b.salt.getD 17 0) (b.salt.getD 18 0) (b.salt.getD 19 0) (b.salt.getD 20 0) (b.salt.getD 21 0) (b.salt.getD 22 0) (b.salt.getD 23 0) (b.salt.getD 24 0) (b.salt.getD 25 0) (b.salt.getD 26 0) (b.salt.getD 27 0) (b.salt.getD 28 0) (b.salt.getD 29 0) (b.salt.getD 30 0) (b.salt.getD 31 0) b.H.length tl p 0 0 0 0 0 0 0 0 0 0 0 0 0 0 0 0 0 0 0 0 0 0 0 0 0 0 0 0 0 0 0 0 [] []
   = kx src v (z:Int) ((zcG b.H (z-i) i c:Nat):Int) (zr b.H++zs) b1 (b.salt.getD 0 0) (b.salt.getD 1 0) (b.salt.getD 2 0) (b.salt.getD 3 0) (b.salt.getD 4 0) (b.salt.getD 5 0) (b.salt.getD 6 0) (b.salt.getD 7 0) (b.salt.getD 8 0) (b.salt.getD 9 0) (b.salt.getD 10 0) (b.salt.getD 11 0) (b.salt.getD 12 0) (b.salt.getD 13 0) (b.salt.getD 14 0) (b.salt.getD 15 0) (b.salt.getD 16 0) (b.salt.getD 17 0) (b.salt.getD 18 0) (b.salt.getD 19 0) (b.salt.getD 20 0) (b.salt.getD 21 0) (b.salt.getD 22 0) (b.salt.getD 23 0) (b.salt.getD 24 0) (b.salt.getD 25 0) (b.salt.getD 26 0) (b.salt.getD 27 0) (b.salt.getD 28 0) (b.salt.getD 29 0) (b.salt.getD 30 0) (b.salt.getD 31 0) b.H.length tl p 0 0 0 0 0 0 0 0 0 0 0 0 0 0 0 0 0 0 0 0 0 0 0 0 0 0 0 0 0 0 0 0 [] []:=by
 intro m
 induction m with
 | zero=>intro i c h1 h2 h3; omega
 | succ m IH=>
  intro i c h1 h2 h3
  unfold zbr zd6
  by_cases h:i<z
  ·have hi:i<b.H.length:=by omega
   rw [zay (by omega),ya (by omega),at3,zEd hi,ya (by omega),at3,zEd h3,yQ,show z-i=(z-(i+1))+1 by omega,zcG,zk0 hi,zk0 h3]
   by_cases ht:b.H[i].a.t<b.H[c].a.t
   ·rw [if_pos ht,if_pos ht,zo,zad (by omega)]
    exact IH (i+1) i (by omega) (by omega) hi
   ·rw [if_neg ht,if_neg ht,zo,zad (by omega)]
    exact IH (i+1) c (by omega) (by omega) h3
  ·rw [zaF (by omega),show z-i=0 by omega]; rfl
theorem zEH(L:Nat)(hL:200000<L)(b:Bk)(hs:Srt b.H)(hH:b.H.length≤100000)(z b1:List V)(tl:Nat)(a:Adr)(src:Int)(k:zcj β)(k1:zdT β) :
  xN β (L+100) (b.salt.getD 0 0) (b.salt.getD 1 0) (b.salt.getD 2 0) (b.salt.getD 3 0) (b.salt.getD 4 0) (b.salt.getD 5 0) (b.salt.getD 6 0) (b.salt.getD 7 0) (b.salt.getD 8 0) (b.salt.getD 9 0) (b.salt.getD 10 0) (b.salt.getD 11 0) (b.salt.getD 12 0) (b.salt.getD 13 0) (b.salt.getD 14 0) (b.salt.getD 15 0) (b.salt.getD 16 0) (b.salt.getD 17 0) (b.salt.getD 18 0) (b.salt.getD 19 0) (b.salt.getD 20 0) (b.salt.getD 21 0) (b.salt.getD 22 0) (b.salt.getD 23 0) (b.salt.getD 24 0) (b.salt.getD 25 0) (b.salt.getD 26 0) (b.salt.getD 27 0) (b.salt.getD 28 0) (b.salt.getD 29 0) (b.salt.getD 30 0) (b.salt.getD 31 0) b.H.length tl a.v src (zr b.H++z) b1 k k1=if (zj4 b.salt b.H a src).2=true then k (b.salt.getD 0 0) (b.salt.getD 1 0) (b.salt.getD 2 0) (b.salt.getD 3 0) (b.salt.getD 4 0) (b.salt.getD 5 0) (b.salt.getD 6 0) (b.salt.getD 7 0) (b.salt.getD 8 0) (b.salt.getD 9 0) (b.salt.getD 10 0) (b.salt.getD 11 0) (b.salt.getD 12 0) (b.salt.getD 13 0) (b.salt.getD 14 0) (b.salt.getD 15 0) (b.salt.getD 16 0) (b.salt.getD 17 0) (b.salt.getD 18 0) (b.salt.getD 19 0) (b.salt.getD 20 0) (b.salt.getD 21 0) (b.salt.getD 22 0) (b.salt.getD 23 0) (b.salt.getD 24 0) (b.salt.getD 25 0) (b.salt.getD 26 0) (b.salt.getD 27 0) (b.salt.getD 28 0) (b.salt.getD 29 0) (b.salt.getD 30 0) (b.salt.getD 31 0) (zj4 b.salt b.H a src).1.length tl true (zr b.H++z).length b1 (zr (zj4 b.salt b.H a src).1) else k1 (b.salt.getD 0 0) (b.salt.getD 1 0) (b.salt.getD 2 0) (b.salt.getD 3 0) (b.salt.getD 4 0) (b.salt.getD 5 0) (b.salt.getD 6 0) (b.salt.getD 7 0) (b.salt.getD 8 0) (b.salt.getD 9 0) (b.salt.getD 10 0) (b.salt.getD 11 0) (b.salt.getD 12 0) (b.salt.getD 13 0) (b.salt.getD 14 0) (b.salt.getD 15 0) (b.salt.getD 16 0) (b.salt.getD 17 0) (b.salt.getD 18 0) (b.salt.getD 19 0) (b.salt.getD 20 0) (b.salt.getD 21 0) (b.salt.getD 22 0) (b.salt.getD 23 0) (b.salt.getD 24 0) (b.salt.getD 25 0) (b.salt.getD 26 0) (b.salt.getD 27 0) (b.salt.getD 28 0) (b.salt.getD 29 0) (b.salt.getD 30 0) (b.salt.getD 31 0) b.H.length tl false (zr b.H++z) b1:=by
 unfold xN zg5 zkM
 rw [ya (by show 0+3≤3; omega),zdN,b.cells,zCd L b.salt b.hs]
 unfold zj4
 generalize hbk b.salt a src=v
 have hr:=zoO b.H v
 rw [zBE _ b.H (by omega) (by omega),ya rfl,zo,yR (by omega) (by omega),yQ]
 by_cases h8:toN b.H v-yD b.H v≥8
 ·obtain ⟨n,hn⟩:∃ n,toN b.H v-yD b.H v=n+1:=⟨toN b.H v-yD b.H v-1,by omega⟩
  rw [if_pos (by omega),if_pos h8,zo,zad (by omega)]
  refine (zCP (L+100) b (by omega) (toN b.H v) hr.2 z b1 a.v src v tl _ (L+100) (yD b.H v+1) (yD b.H v) (by omega) (by omega) (by omega)).trans ?_
  have hm:=ziz b.H (yD b.H v) (toN b.H v) (toN b.H v-yD b.H v) (yD b.H v) (yD b.H v) (Wq _) (by omega) (Wq _) (by omega)
  have he:zcG b.H (toN b.H v-(yD b.H v+1)) (yD b.H v+1) (yD b.H v)=zcG b.H (toN b.H v-yD b.H v) (yD b.H v) (yD b.H v):=by
   rw [hn,zFQ]; congr 1; omega
  rw [he]
  generalize zcG b.H (toN b.H v-yD b.H v) (yD b.H v) (yD b.H v)=m at hm ⊢
  have hml:m<b.H.length:=by omega
  unfold zdq
  rw [ya (by omega),at3,zEd hml,xw (n:=a.t) rfl,yQ,zk0 hml]
  by_cases ht:b.H[m].a.t≥a.t
  ·rw [if_pos ht,if_pos ht,if_neg (by simp)]
  ·obtain ⟨z',hz',hdel⟩:=zFi (L+100) b.H (by omega) z m hml
   have hrl:(zaP b.H m).length=b.H.length-1:=by unfold zaP; simp; omega
   have htr:=zF5 hs hm.1 hm.2
   have hle:toN (zaP b.H m) v≤(zaP b.H m).length:=(zoO _ v).2
   have hlen:(zr (zaP b.H m)++z').length=(zr b.H++z).length:=by rw [zuw,zuw,hz',hrl]; omega
   rw [if_neg ht,if_neg ht,if_pos rfl,zo,zad (by omega),hdel,hlen,ya rfl,zo,show QF .i64 ((toN b.H v:Int)-1)=((toN b.H v-1:Nat):Int) by rw [yR (by omega) (by omega)]; omega,ya (by show 0+3≤3; omega),zdN,ya ⟨rfl,by omega⟩,ya (by show 1=1∧4+1≤5; omega),ya ⟨rfl,by omega⟩,zEA,fl1,← htr,zBb _ _ (by omega) z' _ hle,hlen,ya rfl,zM]
   rfl
 ·rw [if_neg (by omega),if_neg h8,if_pos rfl,ya (by show 0+3≤3; omega),ya ⟨rfl,by omega⟩,ya (by show 1=1∧4+1≤5; omega),ya ⟨rfl,by omega⟩,zEA,fl1,zBb _ _ (by omega) z _ hr.2,ya rfl,zM]
  rfl
end
section
set_option maxRecDepth 100000
variable {β:Type}
theorem Bk.vv(b:Bk):[V.sc (.int .u8 (b.salt.getD 0 0)),V.sc (.int .u8 (b.salt.getD 1 0)),V.sc (.int .u8 (b.salt.getD 2 0)),V.sc (.int .u8 (b.salt.getD 3 0)),V.sc (.int .u8 (b.salt.getD 4 0)),V.sc (.int .u8 (b.salt.getD 5 0)),V.sc (.int .u8 (b.salt.getD 6 0)),V.sc (.int .u8 (b.salt.getD 7 0)),V.sc (.int .u8 (b.salt.getD 8 0)),V.sc (.int .u8 (b.salt.getD 9 0)),V.sc (.int .u8 (b.salt.getD 10 0)),V.sc (.int .u8 (b.salt.getD 11 0)),V.sc (.int .u8 (b.salt.getD 12 0)),V.sc (.int .u8 (b.salt.getD 13 0)),V.sc (.int .u8 (b.salt.getD 14 0)),V.sc (.int .u8 (b.salt.getD 15 0)),V.sc (.int .u8 (b.salt.getD 16 0)),V.sc (.int .u8 (b.salt.getD 17 0)),V.sc (.int .u8 (b.salt.getD 18 0)),V.sc (.int .u8 (b.salt.getD 19 0)),V.sc (.int .u8 (b.salt.getD 20 0)),V.sc (.int .u8 (b.salt.getD 21 0)),V.sc (.int .u8 (b.salt.getD 22 0)),V.sc (.int .u8 (b.salt.getD 23 0)),V.sc (.int .u8 (b.salt.getD 24 0)),V.sc (.int .u8 (b.salt.getD 25 0)),V.sc (.int .u8 (b.salt.getD 26 0)),V.sc (.int .u8 (b.salt.getD 27 0)),V.sc (.int .u8 (b.salt.getD 28 0)),V.sc (.int .u8 (b.salt.getD 29 0)),V.sc (.int .u8 (b.salt.getD 30 0)),V.sc (.int .u8 (b.salt.getD 31 0)),(V.sl 5 (zD b.H)),(V.sl 5 (zD b.T))]=b.v:=by rw [b.mk_v]; rfl
theorem Bk.vx(b:Bk)(H T:List Plc):[V.sc (.int .u8 (b.salt.getD 0 0)),V.sc (.int .u8 (b.salt.getD 1 0)),V.sc (.int .u8 (b.salt.getD 2 0)),V.sc (.int .u8 (b.salt.getD 3 0)),V.sc (.int .u8 (b.salt.getD 4 0)),V.sc (.int .u8 (b.salt.getD 5 0)),V.sc (.int .u8 (b.salt.getD 6 0)),V.sc (.int .u8 (b.salt.getD 7 0)),V.sc (.int .u8 (b.salt.getD 8 0)),V.sc (.int .u8 (b.salt.getD 9 0)),V.sc (.int .u8 (b.salt.getD 10 0)),V.sc (.int .u8 (b.salt.getD 11 0)),V.sc (.int .u8 (b.salt.getD 12 0)),V.sc (.int .u8 (b.salt.getD 13 0)),V.sc (.int .u8 (b.salt.getD 14 0)),V.sc (.int .u8 (b.salt.getD 15 0)),V.sc (.int .u8 (b.salt.getD 16 0)),V.sc (.int .u8 (b.salt.getD 17 0)),V.sc (.int .u8 (b.salt.getD 18 0)),V.sc (.int .u8 (b.salt.getD 19 0)),V.sc (.int .u8 (b.salt.getD 20 0)),V.sc (.int .u8 (b.salt.getD 21 0)),V.sc (.int .u8 (b.salt.getD 22 0)),V.sc (.int .u8 (b.salt.getD 23 0)),V.sc (.int .u8 (b.salt.getD 24 0)),V.sc (.int .u8 (b.salt.getD 25 0)),V.sc (.int .u8 (b.salt.getD 26 0)),V.sc (.int .u8 (b.salt.getD 27 0)),V.sc (.int .u8 (b.salt.getD 28 0)),V.sc (.int .u8 (b.salt.getD 29 0)),V.sc (.int .u8 (b.salt.getD 30 0)),V.sc (.int .u8 (b.salt.getD 31 0)),(V.sl 5 (zD H)),(V.sl 5 (zD T))]=(⟨b.salt,H,T,b.hs⟩:Bk).v:=by rw [b.mk_v]; rfl
theorem Bk.c32(b:Bk)(k:List (List V)→Option β):cL 5 b.v 32 k=k (zD b.H):=zkX b.g32 k
theorem Bk.c33(b:Bk)(k:List (List V)→Option β):cL 5 b.v 33 k=k (zD b.T):=zkX b.g33 k
theorem zBn{n:Nat}{l:List Plc}{j:Nat}{t:Int}(h:n=l.length):xe 5 n (zr (zpZ l j t))=zD (zpZ l j t):=zkP (by rw [zvM]; exact h)
theorem zyH(L:Nat)(hL:200000<L)(b:Bk)(hH:b.H.length≤1000)(hT:b.T.length≤1000)(a:Adr)(src:Int)(k:List V→Bool→Int→Option β) :
  yL β (L+100) b.v a.v src k=if zjr b=true then k (zc8 b a src).1.v (zc8 b a src).2 0 else k bk0.v false 6:=by
 unfold yL zkF
 rw [ya b.len,xc b 0 (by omega),xc b 1 (by omega),xc b 2 (by omega),xc b 3 (by omega),xc b 4 (by omega),xc b 5 (by omega),xc b 6 (by omega),xc b 7 (by omega),xc b 8 (by omega),xc b 9 (by omega),xc b 10 (by omega),xc b 11 (by omega),xc b 12 (by omega),xc b 13 (by omega),xc b 14 (by omega),xc b 15 (by omega),xc b 16 (by omega),xc b 17 (by omega),xc b 18 (by omega),xc b 19 (by omega),xc b 20 (by omega),xc b 21 (by omega),xc b 22 (by omega),xc b 23 (by omega),xc b 24 (by omega),xc b 25 (by omega),xc b 26 (by omega),xc b 27 (by omega),xc b 28 (by omega),xc b 29 (by omega),xc b 30 (by omega),xc b 31 (by omega),b.c32,b.c33,b.vv,zAk L b (by omega) (by omega) (by omega),zvE]
 cases hS:zjr b with
 | false=>
  rw [Bool.not_false,zdm,if_neg (by simp),zEO]
 | true=>
  have hs:=(zfO b).1 hS
  rw [Xg,zc1,if_pos rfl,zBJ _ b (by omega) (by omega),ya (by show 0+3≤3; omega),zdN,zAG _ b.T (by omega) (by omega),ya rfl,yQ]
  by_cases h:zcb (fun x=>zy x.a a) b.T 0≥0
  ·obtain ⟨j,hj,e⟩:=zpA h
   unfold zc8
   rw [if_pos h,if_pos h,e,ya (by omega),at3,cT hj,xw (n:=a.t) rfl,zo,ya (by omega),ya ⟨rfl,by rw [z6]; omega⟩,zo,zqb hj,zaa,zBn rfl,b.vx,Yc]
  ·rw [if_neg h,ya (by show 0+3≤3; omega),zAG _ b.H (by omega) (by omega),ya rfl,yQ]
   by_cases h':zcb (fun x=>zy x.a a) b.H 0≥0
   ·obtain ⟨j,hj,e⟩:=zpA h'
    unfold zc8
    rw [if_pos h',if_neg h,if_pos h',e,ya (by omega),at3,cT hj,xw (n:=a.t) rfl,zo,ya (by omega),ya ⟨rfl,by rw [z6]; omega⟩,zo,zqb hj,zaa,zBn rfl,b.vx,Yc]
   ·have hl:=fun (k:zcj β) k1=>zEH L hL b hs.h.s (by omega) [] (zr b.T) b.T.length a src k k1
    simp only [Ye] at hl
    rw [if_neg h',ya (by show 0+3≤3; omega),hl,zAQ b a src h h']
    cases hr:(zj4 b.salt b.H a src).2 with
    | true=>rw [if_pos rfl,ya rfl,zaa,zaa,b.vx]
    | false=>
     have e1:(zj4 b.salt b.H a src).1=b.H:=by
      unfold zj4 at hr ⊢
      split at hr
      ·split at hr
       ·rename_i c1 c2; rw [if_pos c1,if_pos c2]
       ·cases hr
      ·cases hr
     rw [if_neg (by simp),ya rfl,zaa,zaa,b.vx,e1]
theorem zGe(L:Nat)(hL:200000<L)(k:Bool→Option β):y6 β (L+100) k=k true:=by
 have h0:zjr bk0=true:=(zfO bk0).2 (zA8 (We 32 0) (by simp))
 have e0:zc8 bk0 ⟨327680,8,3⟩ 7=(⟨We 32 0,[⟨hbk (We 32 0) ⟨327680,8,3⟩ 7,⟨327680,8,3⟩,7⟩],[],by rfl⟩,true):=rfl
 have h1:SndB (zc8 bk0 ⟨327680,8,3⟩ 7).1:=ztR ((zfO bk0).1 h0) _ _
 rw [e0] at h1
 have e1:∀ v:Int,zc8 ⟨We 32 0,[⟨v,⟨327680,8,3⟩,7⟩],[],by rfl⟩ ⟨327680,8,9⟩ 8=(⟨We 32 0,[⟨v,⟨327680,8,9⟩,7⟩],[],by rfl⟩,false):=fun v=>rfl
 unfold y6 zp0
 have ea:∀ t:Int,[(Qc (327680:Int)),(Qb (8:Int)),(Qc t)]=(⟨327680,8,t⟩:Adr).v:=fun t=>rfl
 have es:zg (⟨327680,8,3⟩:Adr).v 2 [(Qc (9:Int))]=(⟨327680,8,9⟩:Adr).v:=rfl
 generalize hbk (We 32 0) ⟨327680,8,3⟩ 7=v at e0 h1
 rw [zo,ea,ya (by show 0+3≤3; omega),zdN,zEO,zyH L hL bk0 (by simp [bk0]) (by simp [bk0]),if_pos h0,e0,ya ⟨Bk.len _,by omega⟩,z34 _ (by simp),zo,ya (by show 1=1∧2+1≤3; omega),zo,es,ya (by rw [Bk.len]; omega),ya (by show 0+3≤3; omega),Bk.take,Bk.dem,zdN,zyH L hL _ (by simp) (by simp),if_pos ((zfO _).2 h1),e1,ya ⟨Bk.len _,by omega⟩,z34 _ (by simp),zo,zR,if_pos rfl,zR,if_pos rfl,zdm,Bool.not_false,zdm,zbw (Bk.g32 _)]
 rw [zbw (Bk.g32 _)]
 rw [show ((((zD [(⟨v,⟨327680,8,9⟩,7⟩:Plc)]).length:Nat):Int)==1)=true from rfl,zdm,zwa (j:=0) (c:=(⟨v,⟨327680,8,9⟩,7⟩:Plc).v) (by decide) rfl,xw (n:=9) rfl,zR,if_pos rfl,zbw (Bk.g32 _),zwa (j:=0) (c:=(⟨v,⟨327680,8,9⟩,7⟩:Plc).v) (by decide) rfl,xw (n:=7) rfl,zR,if_pos rfl,ya (by show 0+3≤3; omega),zr9]
 rfl
end
section
set_option maxRecDepth 100000
variable {β:Type}
theorem zF1(L:Nat)(es:List (List V))(k:List (List V)→Int→Option β):zaI β L es k=k es 0:=by
 simp only [zaI,zsy,zo]
def Plc.atB(e:Plc)(v:Int):Plc:=⟨v,e.a,e.s⟩
def Plc.atH(e:Plc)(v:Int):Plc:=⟨e.b,⟨v,e.a.p,e.a.t⟩,e.s⟩
def Plc.atS(e:Plc)(v:Int):Plc:=⟨e.b,e.a,v⟩
theorem ztP{l:List Plc}{i j:Nat}(hi:i<l.length)(hj:j<5)(v:V)(p:Plc)(h:l[i].v.set j v=p.v):zg (zr l) (i*5+j) [v]=zr (l.set i p):=by
 unfold zr
 rw [zEi (by omega) (zrb l) hj (zbx hi),h]
 congr 1
 simp [zD,List.map_set]
theorem zAt{n:Nat}{l:List Plc}{j:Nat}{p:Plc}(h:n=l.length):xe 5 n (zr (l.set j p))=zD (l.set j p):=zkP (by rw [List.length_set]; exact h)
theorem zEq(L:Nat)(b:Bk)(hH:b.H.length≤512)(hT:b.T.length≤512)(what at_:Int):∃ c:Bk,c.H.length≤513∧c.T.length≤513∧c.salt=b.salt∧∀ (β:Type) (k:List V→Option β),zH β L b.v what at_ k=k c.v:=by
 have hself:b.H.length≤513∧b.T.length≤513:=⟨by omega,by omega⟩
 have pre:∀ (β:Type) (k:List V→Option β) (A B:Option β),True:=fun _ _ _ _=>trivial
 by_cases h0:0<b.H.length
 ·obtain ⟨j',j1,j2,qj⟩:=zwA L at_ (b.H.length:Int) (by omega) (by omega)
  obtain ⟨j,rfl⟩:∃ j:Nat,j'=j:=⟨j'.toNat,by omega⟩
  have hj:j<b.H.length:=by omega
  obtain ⟨w,w1,w2,qw⟩:=zwA L what 6 (by omega) (by omega)
  obtain ⟨v,v1,v2,qv⟩:=zwA L at_ 70 (by omega) (by omega)
  have eB:0+XK (j:Int)*5+0=j*5+0:=by rw [Yc]; omega
  have eH:0+XK (j:Int)*5+1+0=j*5+1:=by rw [Yc]; omega
  have eS:0+XK (j:Int)*5+4=j*5+4:=by rw [Yc]; omega
  have gH:(zr b.H)[j*5+1]?=some (.sc (.int .u32 b.H[j].a.h)):=by rw [zqh hj (by omega)]; rfl
  have gS:(zr b.H)[j*5+4]?=some (.sc (.int .u32 b.H[j].s)):=by rw [zqh hj (by omega)]; rfl
  have hx:∀ (c:Bk),c.H.length≤513→c.T.length≤513→c.salt=b.salt→(∀ (β:Type) (k:List V→Option β),zH β L b.v what at_ k=k c.v)→∃ c:Bk,c.H.length≤513∧c.T.length≤513∧c.salt=b.salt∧∀ (β:Type) (k:List V→Option β),zH β L b.v what at_ k=k c.v:=fun c a1 a2 a3 a4=>⟨c,a1,a2,a3,a4⟩
  by_cases c0:w=0
  ·refine hx ⟨b.salt,b.H.set j (b.H[j].atB (v-3)),b.T,b.hs⟩ (by simp; omega) (by show b.T.length≤513; omega) rfl (fun β k=>?_)
   unfold zH zct
   rw [ya b.len,xc b 0 (by omega),xc b 1 (by omega),xc b 2 (by omega),xc b 3 (by omega),xc b 4 (by omega),xc b 5 (by omega),xc b 6 (by omega),xc b 7 (by omega),xc b 8 (by omega),xc b 9 (by omega),xc b 10 (by omega),xc b 11 (by omega),xc b 12 (by omega),xc b 13 (by omega),xc b 14 (by omega),xc b 15 (by omega),xc b 16 (by omega),xc b 17 (by omega),xc b 18 (by omega),xc b 19 (by omega),xc b 20 (by omega),xc b 21 (by omega),xc b 22 (by omega),xc b 23 (by omega),xc b 24 (by omega),xc b 25 (by omega),xc b 26 (by omega),xc b 27 (by omega),xc b 28 (by omega),xc b 29 (by omega),xc b 30 (by omega),xc b 31 (by omega),b.c32,b.c33,b.vv,zft _ b (by omega) (by omega),yQ,if_pos (by omega),qj,ya (by omega),qw,zR,if_pos c0,qv,zo,yR (by omega) (by omega),eB,ya ⟨rfl,by rw [z6]; omega⟩,zo,ztP hj (by omega) _ (b.H[j].atB (v-3)) rfl,zAt rfl,zaa,b.vx]
  ·by_cases c1:w=1
   ·refine hx ⟨b.salt,b.H.set j (b.H[j].atH (QF .u32 (b.H[j].a.h+1))),b.T,b.hs⟩ (by simp; omega) (by show b.T.length≤513; omega) rfl (fun β k=>?_)
    unfold zH zct
    rw [ya b.len,xc b 0 (by omega),xc b 1 (by omega),xc b 2 (by omega),xc b 3 (by omega),xc b 4 (by omega),xc b 5 (by omega),xc b 6 (by omega),xc b 7 (by omega),xc b 8 (by omega),xc b 9 (by omega),xc b 10 (by omega),xc b 11 (by omega),xc b 12 (by omega),xc b 13 (by omega),xc b 14 (by omega),xc b 15 (by omega),xc b 16 (by omega),xc b 17 (by omega),xc b 18 (by omega),xc b 19 (by omega),xc b 20 (by omega),xc b 21 (by omega),xc b 22 (by omega),xc b 23 (by omega),xc b 24 (by omega),xc b 25 (by omega),xc b 26 (by omega),xc b 27 (by omega),xc b 28 (by omega),xc b 29 (by omega),xc b 30 (by omega),xc b 31 (by omega),b.c32,b.c33,b.vv,zft _ b (by omega) (by omega),yQ,if_pos (by omega),qj,ya (by omega),qw,zR,if_neg c0,zR,if_pos c1,eH,xw gH,zo,ya ⟨rfl,by rw [z6]; omega⟩,zo,ztP hj (by omega) _ (b.H[j].atH (QF .u32 (b.H[j].a.h+1))) rfl,zAt rfl,zaa,b.vx]
   ·by_cases c2:w=2
    ·refine hx ⟨b.salt,b.H.set j (b.H[j].atS (QF .u32 (b.H[j].s+1))),b.T,b.hs⟩ (by simp; omega) (by show b.T.length≤513; omega) rfl (fun β k=>?_)
     unfold zH zct
     rw [ya b.len,xc b 0 (by omega),xc b 1 (by omega),xc b 2 (by omega),xc b 3 (by omega),xc b 4 (by omega),xc b 5 (by omega),xc b 6 (by omega),xc b 7 (by omega),xc b 8 (by omega),xc b 9 (by omega),xc b 10 (by omega),xc b 11 (by omega),xc b 12 (by omega),xc b 13 (by omega),xc b 14 (by omega),xc b 15 (by omega),xc b 16 (by omega),xc b 17 (by omega),xc b 18 (by omega),xc b 19 (by omega),xc b 20 (by omega),xc b 21 (by omega),xc b 22 (by omega),xc b 23 (by omega),xc b 24 (by omega),xc b 25 (by omega),xc b 26 (by omega),xc b 27 (by omega),xc b 28 (by omega),xc b 29 (by omega),xc b 30 (by omega),xc b 31 (by omega),b.c32,b.c33,b.vv,zft _ b (by omega) (by omega),yQ,if_pos (by omega),qj,ya (by omega),qw,zR,if_neg c0,zR,if_neg c1,zR,if_pos c2,eS,xw gS,zo,ya ⟨rfl,by rw [z6]; omega⟩,zo,ztP hj (by omega) _ (b.H[j].atS (QF .u32 (b.H[j].s+1))) rfl,zAt rfl,zaa,b.vx]
    ·have ht:∀ l:List Plc,XL (l.length*5) (zr l)=zr l:=fun l=>Xu (by rw [z6]; exact Wq _)
     have fl:∀ (l:List Plc) (p:Plc),zr l++XO (xe 5 1 p.v)=zr (l++[p]):=by
      intro l p
      rw [fl1,zkU]
      congr 1
     have cl:∀ p:Plc,List.length (xe 5 1 p.v)=1:=fun p=>rfl
     by_cases c3:w=3
     ·refine hx ⟨b.salt,b.H,b.T++[b.H[j]],b.hs⟩ (by show b.H.length≤513; omega) (by simp; omega) rfl (fun β k=>?_)
      unfold zH zct
      rw [ya b.len,xc b 0 (by omega),xc b 1 (by omega),xc b 2 (by omega),xc b 3 (by omega),xc b 4 (by omega),xc b 5 (by omega),xc b 6 (by omega),xc b 7 (by omega),xc b 8 (by omega),xc b 9 (by omega),xc b 10 (by omega),xc b 11 (by omega),xc b 12 (by omega),xc b 13 (by omega),xc b 14 (by omega),xc b 15 (by omega),xc b 16 (by omega),xc b 17 (by omega),xc b 18 (by omega),xc b 19 (by omega),xc b 20 (by omega),xc b 21 (by omega),xc b 22 (by omega),xc b 23 (by omega),xc b 24 (by omega),xc b 25 (by omega),xc b 26 (by omega),xc b 27 (by omega),xc b 28 (by omega),xc b 29 (by omega),xc b 30 (by omega),xc b 31 (by omega),b.c32,b.c33,b.vv,zft _ b (by omega) (by omega),yQ,if_pos (by omega),qj,ya (by omega),qw,zR,if_neg c0,zR,if_neg c1,zR,if_neg c2,zR,if_pos c3,at0,ya (by rw [z6]; omega),zsr hj,ya ⟨rfl,by omega⟩,z5,cl,ya ⟨by simp only [yn]; omega,by simp only [yn]; omega,.inl (by omega)⟩,zo,ht,fl,zaa,zkP (by simp),b.vx]
     ·by_cases c4:w=4
      ·refine hx ⟨b.salt,b.H++[b.H[j]],b.T,b.hs⟩ (by simp; omega) (by show b.T.length≤513; omega) rfl (fun β k=>?_)
       unfold zH zct
       rw [ya b.len,xc b 0 (by omega),xc b 1 (by omega),xc b 2 (by omega),xc b 3 (by omega),xc b 4 (by omega),xc b 5 (by omega),xc b 6 (by omega),xc b 7 (by omega),xc b 8 (by omega),xc b 9 (by omega),xc b 10 (by omega),xc b 11 (by omega),xc b 12 (by omega),xc b 13 (by omega),xc b 14 (by omega),xc b 15 (by omega),xc b 16 (by omega),xc b 17 (by omega),xc b 18 (by omega),xc b 19 (by omega),xc b 20 (by omega),xc b 21 (by omega),xc b 22 (by omega),xc b 23 (by omega),xc b 24 (by omega),xc b 25 (by omega),xc b 26 (by omega),xc b 27 (by omega),xc b 28 (by omega),xc b 29 (by omega),xc b 30 (by omega),xc b 31 (by omega),b.c32,b.c33,b.vv,zft _ b (by omega) (by omega),yQ,if_pos (by omega),qj,ya (by omega),qw,zR,if_neg c0,zR,if_neg c1,zR,if_neg c2,zR,if_neg c3,zR,if_pos c4,at0,ya (by rw [z6]; omega),zsr hj,ya ⟨rfl,by omega⟩,z5,cl,ya ⟨by simp only [yn]; omega,by simp only [yn]; omega,.inl (by omega)⟩,zo,ht,fl,zkP (by simp),zaa,b.vx]
      ·refine hx b hself.1 hself.2 rfl (fun β k=>?_)
       unfold zH zct
       rw [ya b.len,xc b 0 (by omega),xc b 1 (by omega),xc b 2 (by omega),xc b 3 (by omega),xc b 4 (by omega),xc b 5 (by omega),xc b 6 (by omega),xc b 7 (by omega),xc b 8 (by omega),xc b 9 (by omega),xc b 10 (by omega),xc b 11 (by omega),xc b 12 (by omega),xc b 13 (by omega),xc b 14 (by omega),xc b 15 (by omega),xc b 16 (by omega),xc b 17 (by omega),xc b 18 (by omega),xc b 19 (by omega),xc b 20 (by omega),xc b 21 (by omega),xc b 22 (by omega),xc b 23 (by omega),xc b 24 (by omega),xc b 25 (by omega),xc b 26 (by omega),xc b 27 (by omega),xc b 28 (by omega),xc b 29 (by omega),xc b 30 (by omega),xc b 31 (by omega),b.c32,b.c33,b.vv,zft _ b (by omega) (by omega),yQ,if_pos (by omega),qj,ya (by omega),qw,zR,if_neg c0,zR,if_neg c1,zR,if_neg c2,zR,if_neg c3,zR,if_neg c4,zaa,zaa,b.vv]
 ·refine ⟨b,hself.1,hself.2,rfl,fun β k=>?_⟩
  unfold zH zct
  rw [ya b.len,xc b 0 (by omega),xc b 1 (by omega),xc b 2 (by omega),xc b 3 (by omega),xc b 4 (by omega),xc b 5 (by omega),xc b 6 (by omega),xc b 7 (by omega),xc b 8 (by omega),xc b 9 (by omega),xc b 10 (by omega),xc b 11 (by omega),xc b 12 (by omega),xc b 13 (by omega),xc b 14 (by omega),xc b 15 (by omega),xc b 16 (by omega),xc b 17 (by omega),xc b 18 (by omega),xc b 19 (by omega),xc b 20 (by omega),xc b 21 (by omega),xc b 22 (by omega),xc b 23 (by omega),xc b 24 (by omega),xc b 25 (by omega),xc b 26 (by omega),xc b 27 (by omega),xc b 28 (by omega),xc b 29 (by omega),xc b 30 (by omega),xc b 31 (by omega),b.c32,b.c33,b.vv,zft _ b (by omega) (by omega),yQ,if_neg (by omega),zaa,zaa,b.vv]
end
section
set_option maxRecDepth 100000
variable {β:Type}
def zv5(src:Int):List Plc→Nat
 | []=>0
 | e::l=>(if e.s=src then 1 else 0)+zv5 src l
theorem zA1(L:Nat)(l:List Plc)(hl:l.length≤1000000)(src:Int)(kx:Int→Option β):∀ (m i c:Nat),c≤i→i≤l.length→l.length-i<m →
  zcF L kx m src (c:Int) (zD l) (l.length:Int) (i:Int)=kx ((c+zv5 src (l.drop i):Nat):Int):=by
 intro m
 induction m with
 | zero=>intro i c h0 h1 h2; omega
 | succ m ih=>
  intro i c h0 h1 h2
  unfold zcF zgl
  by_cases h:i<l.length
  ·rw [zay (by omega),zbD (zbx h),zpJ,ya ⟨rfl,by omega⟩,z5,zo,xw (n:=l[i].s) rfl,zR,WP h,zv5,zo,zo,zad (by omega),zad (by omega)]
   by_cases hs:l[i].s=src
   ·rw [if_pos hs,if_pos hs]
    refine (ih (i+1) (c+1) (by omega) (by omega) (by omega)).trans ?_
    congr 2; omega
   ·rw [if_neg hs,if_neg hs]
    refine (ih (i+1) c (by omega) (by omega) (by omega)).trans ?_
    congr 2; omega
  ·rw [zaF (by omega),WI (by omega)]; rfl
theorem zDj(L:Nat)(b:Bk)(hH:b.H.length≤1000000)(hL:b.H.length<L)(src:Int)(k:Int→Option β):zN β L b.v src k=k ((zv5 src b.H:Nat):Int):=by
 unfold zN zgN zkI
 rw [zbw b.g32,zM]
 refine (zA1 L b.H hH src _ L 0 0 (by omega) (by omega) (by omega)).trans ?_
 unfold zfd
 rw [XY,WB]
theorem zAS(L:Nat)(b:Bk)(hl:b.H.length≤1000000)(src:Int)(kx:Int→Option β):∀ (m i c:Nat),c≤i→i≤b.H.length→b.H.length-i<m →
  zdH L kx m src (c:Int) (i:Int) b.v=kx ((c+zv5 src (b.H.drop i):Nat):Int):=by
 intro m
 induction m with
 | zero=>intro i c h0 h1 h2; omega
 | succ m ih=>
  intro i c h0 h1 h2
  unfold zdH zi5
  rw [zbw b.g32,zM]
  by_cases h:i<b.H.length
  ·rw [zay (by omega),zbw b.g32,zbD (zbx h),xw (n:=b.H[i].s) rfl,zR,WP h,zv5,zo,zo,zad (by omega),zad (by omega)]
   by_cases hs:b.H[i].s=src
   ·rw [if_pos hs,if_pos hs]
    refine (ih (i+1) (c+1) (by omega) (by omega) (by omega)).trans ?_
    congr 2; omega
   ·rw [if_neg hs,if_neg hs]
    refine (ih (i+1) c (by omega) (by omega) (by omega)).trans ?_
    congr 2; omega
  ·rw [zaF (by omega),WI (by omega)]; rfl
theorem zDA(L:Nat)(b:Bk)(hH:b.H.length≤1000000)(hL:b.H.length<L)(src:Int)(k:Int→Option β):yY β L b.v src k=k ((zv5 src b.H:Nat):Int):=by
 unfold yY zke zom
 refine (zAS L b hH src _ L 0 0 (by omega) (by omega) (by omega)).trans ?_
 unfold zgH
 rw [XY,WB]
theorem zFP{vs:List V}(h:HasRow ([.int .u32]++[.int .u16]++[.int .u32]) vs):∃ a:Adr,vs=a.v∧0≤a.h:=by
 obtain ⟨h1,h2⟩:=h
 match vs,h1 with
 | [x,y,z],_=>
  obtain ⟨n,rfl,hn⟩:=(h2 0 x _ rfl rfl).int_inv
  obtain ⟨p,rfl,_⟩:=(h2 1 y _ rfl rfl).int_inv
  obtain ⟨t,rfl,_⟩:=(h2 2 z _ rfl rfl).int_inv
  exact ⟨⟨n,p,t⟩,rfl,(zFT hn).1⟩
theorem zrd(a0 a1:List V)(a2:Int)(a3:List (List V))(a4 a5:Int)(wf0:HasRow (We 32 (.int .u8)) a0)(wf1:HasRow ([.int .u32]++[.int .u16]++[.int .u32]) a1)(wf2:(Lit.int .u32 a2).wf=true)(hl3:a3.length≤maxLen)(wf3:∀ e∈a3,HasRow [.int .i64] e)(wf4:(Lit.int .i64 a4).wf=true)(wf5:(Lit.int .i64 a5).wf=true) :
  ∃ L,∀ k:Bool→Option Bool,zae Bool L a0 a1 a2 a3 a4 a5 k=k true:=by
 obtain ⟨l,rfl,_⟩:=zBr wf3
 rw [zd4] at hl3
 obtain ⟨s,rfl,hs,_⟩:=zDk wf0
 obtain ⟨a,rfl,_⟩:=zFP wf1
 obtain ⟨L,hL⟩:∃ L:Nat,6000000≤L:=⟨6000000,Wq _⟩
 refine ⟨L+100,fun k=>?_⟩
 obtain ⟨b,d1,e1,hS,hN,q1⟩:=zEX L (by omega) ⟨l,0,by omega,by omega,by unfold maxLen at hl3; omega⟩
 obtain ⟨c,c1,c2,_,qc⟩:=zEq (L+100) b hS.lenH hS.lenT a4 a5
 have h1:=q1 Bool
 simp only [Dk.es] at h1
 have hH:=hS.lenH
 have hT:=hS.lenT
 unfold zae ze9
 rw [zGe L (by omega),Xg,zc1,zF1,h1,ya ⟨b.len,by omega⟩,z34 _ (by simp),zo,ya (by rw [b.len]; omega),b.take,b.dem,qc,ya ⟨c.len,by omega⟩,z34 _ (by simp),zo,ya (by show 0+3≤3; omega),zdN,zr9,ya (by show 0+3≤3; omega),zr4,zR,if_pos rfl,ya (by rw [zba,hs]; omega),ya (by show 0+3≤3; omega),zm2 hs,zCd L s hs,ya (by rw [zba,hs]; omega),ya (by show 0+3≤3; omega),zBC L s hs,zR,if_pos rfl,ya (by rw [zba,hs]; omega),ya (by show 0+3≤3; omega),zEU L s hs,ya (by rw [zba,hs]; omega),ya (by show 0+3≤3; omega),zzz L s hs,zR,if_pos rfl,ya (by rw [b.len]; omega),zAk L b (by omega) (by omega) (by omega),zvE,(zfO b).2 hS,zdm,ya (by rw [c.len]; omega),c.take,c.dem,zAk L c (by omega) (by omega) (by omega),zvE,ya (by rw [c.len]; omega),zzT L c (by omega) (by omega) (by omega),beq_self_eq_true,zdm,ya (by rw [b.len]; omega),zo,zDj _ b (by omega) (by omega),ya (by rw [b.len]; omega),zo,zDA _ b (by omega) (by omega),beq_self_eq_true]
end
section
namespace addrbookBucketsL
open Go.ChangeShapes Go.WideShapes Go.ChangeAt Go.RowKit
theorem own:ownKnob Try.prog.godebug=none:=by kernel_rfl
theorem zoY:laidOutB Try.prog=true:=by kernel_rfl
set_option maxRecDepth 100000 in
theorem zFR(os:Os)(started:os.Started)(H:Type)(enc:TypeId × Value→H) :
  ReturnsInHanded {} Try.checked os 4 .any (Rows.addrbookBucketsSpec.pre6 enc Try.prog Try.f4 Rows.addrbookBucketsRow.domain false) (Rows.addrbookBucketsSpec.post enc Try.prog Try.f4 false true false false):=by
 refine returnsInHanded_of_change (C:=Try.checked) own started (by kernel_rfl) Try.func4
  (ChangeSpec.witness6 (enc:=enc) (C:=Try.checked) false ⟨#[],#[.agg (Array.replicate 32 (Value.int .u8 0)),.agg (#[(Value.int .u32 0)]++#[(Value.int .u16 0)]++#[(Value.int .u32 0)]),.int .u32 0,.slice none 0 0,.int .i64 0,.int .i64 0],[]⟩ 8 (by kernel_rfl) (by kernel_rfl) (by kernel_rfl) (by kernel_rfl)) ?_
 intro W base args ds gs before hval0 hW hcnd _
 have hval:∀ (j:Nat) t v,Try.f4.params[j]?=some t→args[j]?=some v→Value.okWide Try.prog W .any base t v:=hval0
 have hW':=hW
 obtain ⟨p,q,hA0,hV,rfl,hfz,hnd⟩:=hW
 have hA:DataW.TrodAll enc Try.prog W 0 (fun _=>true) true Try.f4.params.toList args.toList ds p:=hA0
 rw [Try.params4] at hA hval
 obtain ⟨v0,vs0,d0,ds0,p0,q0,hargs,rfl,rfl,h0,r0⟩:=trodAll_cons hA
 obtain ⟨v1,vs1,d1,ds1,p1,q1,rfl,rfl,rfl,h1,r1⟩:=trodAll_cons r0
 obtain ⟨v2,vs2,d2,ds2,p2,q2,rfl,rfl,rfl,h2,r2⟩:=trodAll_cons r1
 obtain ⟨v3,vs3,d3,ds3,p3,q3,rfl,rfl,rfl,h3,r3⟩:=trodAll_cons r2
 obtain ⟨v4,vs4,d4,ds4,p4,q4,rfl,rfl,rfl,h4,r4⟩:=trodAll_cons r3
 obtain ⟨v5,vs5,d5,ds5,p5,q5,rfl,rfl,rfl,h5,r5⟩:=trodAll_cons r4
 obtain ⟨rfl,rfl,rfl⟩:=trodAll_nil r5
 obtain rfl:args=#[v0,v1,v2,v3,v4,v5]:=by cases args; simp_all
 obtain ⟨rfl,rfl⟩:=trodVars_none hV
 have k0:=h0
 have lt0:∀ x∈p0,x.block<W.heap.size:=by obtain ⟨m,hm⟩:=k0; exact DataW.trod_lt m _ _ _ hm
 have k1:=h1
 have lt1:∀ x∈p1,x.block<W.heap.size:=by obtain ⟨m,hm⟩:=k1; exact DataW.trod_lt m _ _ _ hm
 have k2:=h2
 have lt2:∀ x∈p2,x.block<W.heap.size:=by obtain ⟨m,hm⟩:=k2; exact DataW.trod_lt m _ _ _ hm
 have k3:=h3
 have lt3:∀ x∈p3,x.block<W.heap.size:=by obtain ⟨m,hm⟩:=k3; exact DataW.trod_lt m _ _ _ hm
 have k4:=h4
 have lt4:∀ x∈p4,x.block<W.heap.size:=by obtain ⟨m,hm⟩:=k4; exact DataW.trod_lt m _ _ _ hm
 have k5:=h5
 have lt5:∀ x∈p5,x.block<W.heap.size:=by obtain ⟨m,hm⟩:=k5; exact DataW.trod_lt m _ _ _ hm
 obtain ⟨a0,wf0,rp0⟩:=zBp (ren:=xH fg gls) (d:=20) (cts:=We 32 (.int .u8)) (by kernel_rfl) (hval 0 28 v0 rfl rfl) h0 (by kernel_rfl)
 obtain ⟨a1,wf1,rp1⟩:=zBp (ren:=xH fg gls) (d:=20) (cts:=[.int .u32]++[.int .u16]++[.int .u32]) (by kernel_rfl) (hval 1 35 v1 rfl rfl) h1 (by kernel_rfl)
 obtain ⟨a2,rfl,rfl,rfl,wf2⟩:=open_int Try.underlying23 (hval 2 23 v2 rfl rfl) h2
 obtain ⟨A3,len3,cap3,rfl⟩:=okWide_slice Try.underlying22 (hval 3 22 v3 rfl rfl)
 obtain ⟨x3,hx3,rp3⟩:=zEY (r:=.any) (b0:=base) (ren:=xH fg gls) (d:=20) (ct:=.sl ([.int .i64])) rfl h3 (by kernel_rfl)
 obtain ⟨a3,rfl,hl3,wf3⟩:=hx3.sl_inv
 obtain ⟨a4,rfl,rfl,rfl,wf4⟩:=open_int Try.underlying3 (hval 4 3 v4 rfl rfl) h4
 obtain ⟨a5,rfl,rfl,rfl,wf5⟩:=open_int Try.underlying3 (hval 5 3 v5 rfl rfl) h5
 clear hA0 hval0
 obtain ⟨L,hL⟩:=zrd a0 a1 a2 a3 a4 a5 wf0 wf1 wf2 hl3 wf3 wf4 wf5
 have hd:zc7 zae L Bool [(V.agg a0),(V.agg a1),(Qc a2),(V.sl 1 a3),(Qe a4),(Qe a5)] [] zuI=some true:=by
  show (aG (V.agg a0) fun x0=>aG (V.agg a1) fun x1=>aI .u32 (Qc a2) fun x2=>aL 1 (V.sl 1 a3) fun x3=>aI .i64 (Qe a4) fun x4=>aI .i64 (Qe a5) fun x5=>zae Bool L x0 x1 x2 x3 x4 x5 (fun p=>zuI (V.sc (.bool p)) []))=some true
  rw [zEK,zEK,zBN,zGf,zBN,zBN]
  exact (hL (fun p=>zuI (V.sc (.bool p)) [])).trans rfl
 obtain ⟨v,b,hev,hk⟩:=zoN L 100 (by decide) Bool [(V.agg a0),(V.agg a1),(Qc a2),(V.sl 1 a3),(Qe a4),(Qe a5)] [] zuI true hd
 have hv:=zCK hk
 subst hv
 refine (zCa (us:=[v0,v1,.int .u32 a2,.slice A3 len3 cap3,.int .i64 a4,.int .i64 a5]) (w:=W) (fun _ _ h=>by cases h) (zGo L 100) (f:=4) (by kernel_rfl) rfl (fun i x u hx hu=>?_) hev).mono fun e W' ⟨he,bel0⟩=>?_
 ·match i,hx,hu with
  | 0,hx,hu=>cases hx; cases hu; exact rp0
  | 1,hx,hu=>cases hx; cases hu; exact rp1
  | 2,hx,hu=>cases hx; cases hu; exact .sc _ rfl
  | 3,hx,hu=>cases hx; cases hu; exact rp3
  | 4,hx,hu=>cases hx; cases hu; exact .sc _ rfl
  | 5,hx,hu=>cases hx; cases hu; exact .sc _ rfl
  | n+6,hx,hu=>simp at hx
 ·have bel:=Kept.below bel0
  subst he
  exact ⟨_,rfl,_,_,_,[],_,[],hW',trodAll_mk1 (shut_bool Try.underlying4 _),(trodAll_cons_mk (Below.trod zoY (by kernel_rfl) (of_decide_eq_true (by kernel_rfl)) k0 bel lt0) (trodAll_cons_mk (Below.trod zoY (by kernel_rfl) (of_decide_eq_true (by kernel_rfl)) k1 bel lt1) (trodAll_cons_mk (Below.trod zoY (by kernel_rfl) (of_decide_eq_true (by kernel_rfl)) k2 bel lt2) (trodAll_cons_mk (Below.trod zoY (by kernel_rfl) (of_decide_eq_true (by kernel_rfl)) k3 bel lt3) (trodAll_cons_mk (Below.trod zoY (by kernel_rfl) (of_decide_eq_true (by kernel_rfl)) k4 bel lt4) (trodAll_cons_mk (Below.trod zoY (by kernel_rfl) (of_decide_eq_true (by kernel_rfl)) k5 bel lt5) trodAll_mk0)))))),rfl,bel.frame _,fun h=>by cases h⟩
theorem over:Rows.addrbookBucketsRow.holds Try.pinned (OpenSpec.ofChange Rows.addrbookBucketsSpec):=
 OpenClaim.holds_of_wide 4 Try.f4 rfl rfl rfl rfl rfl rfl rfl ⟨rfl,rfl,rfl,rfl,rfl⟩ rfl rfl rfl rfl rfl (by kernel_rfl) Try.func4 (by kernel_rfl)
  (of_decide_eq_true (by kernel_rfl)) (by unfold Func.isWrapper; first | (rw [if_pos (by decide +kernel)]; kernel_rfl) | (rw [if_neg (by decide +kernel)]; exact ⟨rfl,rfl⟩))
  (fun os started H enc _=>zFR os started H enc)
end addrbookBucketsL
theorem addrbookBuckets_holds:Rows.AddrbookBucketsSaid:=addrbookBucketsL.over
end
end Go.Proofs.Ytbimgceighecgaa
