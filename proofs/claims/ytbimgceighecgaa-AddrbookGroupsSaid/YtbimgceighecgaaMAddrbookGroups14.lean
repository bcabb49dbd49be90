/- Part 14 of the proof of AddrbookGroups: an abstract machine over plain values, its soundness, and the functions of the program on plain values. -/
import Derived.Test.YtbimgceighecgaaMAddrbookGroups13
namespace Go.Proofs.Ytbimgceighecgaa
set_option linter.unusedVariables false
set_option linter.unusedSimpArgs false
open List renaming drop_eq_getElem_cons->WP,drop_of_length_le->WI,getElem?_eq_getElem->Wb,take_succ_eq_append_getElem->XU,length_take->Ww,take->XI,replicate->We,takeWhile_cons->XV,pairwise_append->Xr,take_of_length_le->Xu,mem_take_iff_getElem->XW,nil_append->XB,drop_append_of_le_length->Xv,filter_append->XX,length_append->Wm,drop->XJ,all_eq_true->QN,length_cons->XY,mem_append->QC,append_nil->XZ,take_append_of_le_length->Xw,getElem_mem->W1,filter_eq_nil_iff->X0,length->XG,drop_zero->X3,pairwise_iff_getElem->X4,getElem?_append_left->Wv,pairwise_cons->Xs,any_eq_false->X5,append_assoc->Wu,pairwise_map->X6,length_drop->XD,take_append_drop->X7,flatten->XK,takeWhile_append_of_pos->X8,filter_sublist->X9,getElem_append_right->Yb,map_cons->QV,getElem_append_left->Yc,getElem?_take_of_lt->Yd,drop_append->Yf,map_nil->Yh,take_left'->Yi,drop_left'->Yj,takeWhile_sublist->Yk,mem_filter->QY,head?_drop->Yl,length_filter_le->Ym,take_zero->Yo,mem_append_left->Xc,filter_eq_self->Xf,mem_cons->Q7,mem_map->Xl
open IntKind renaming wrap->QF
open Int renaming toNat_natCast->XT,toNat->XH,tmod_lt_of_pos->Ya,tmod->XM,le_refl->Yp
open Bool renaming true_and->XS,and_eq_true->Wg,false_and->Xo,not_eq_true'->Q8,not_true->Xg,not_eq_true->Ye,and_assoc->Yn,false_eq_true->WO
open Nat renaming le_refl->Wq,zero_add->WB,le_trans->QD,sub_zero->Yg
open Prod.mk renaming injEq->QL
open Option renaming getD->XL
section
def zaK(v:Int)(l:List Plc):Nat:=(l.filter (fun x=>x.b==v)).length
def okS(bk:Plc→Int)(N:List Adr)(pre:List Plc)(e:Plc):Bool:=
 e.b==bk e&&(pre.all (fun x=>decide (x.b≤e.b))&&(decide (zaK e.b pre≤7)&&(!(pre.any (fun x=>yz x.a e.a))&&!(N.any (fun a=>yz a e.a)))))
def okA(bk:Plc→Int)(N:List Adr):List Plc→List Plc→Bool
 | _,[]=>true
 | pre,e::l=>okS bk N pre e&&okA bk N (pre++[e]) l
def Srt(l:List Plc):Prop:=l.Pairwise (fun x y=>x.b≤y.b)
theorem zF7{bk:Plc→Int}{N:List Adr}{pre:List Plc}{e:Plc}(h:okS bk N pre e=true):∀ x∈pre,x.b≤e.b:=by
 simp only [okS,Wg,QN,decide_eq_true_eq] at h
 exact h.2.1
theorem Srt.snoc{pre:List Plc}{e:Plc}(h:Srt pre)(he:∀ x∈pre,x.b≤e.b):Srt (pre++[e]):=by
 unfold Srt at *
 rw [Xr]
 exact ⟨h,by simp,fun x hx y hy=>by simp at hy; subst hy; exact he x hx⟩
theorem Srt.split:∀ {l:List Plc} (v:Int),Srt l→(∀ x∈l,x.b≤v)→∃ A B:List Plc,l=A++B∧(∀ x∈A,x.b<v)∧(∀ x∈B,x.b=v)
 | [],v,_,_=>⟨[],[],rfl,by simp,by simp⟩
 | x::l,v,h,hv=>by
  have h':=Xs.1 h
  obtain ⟨A,B,rfl,hA,hB⟩:=Srt.split v h'.2 (fun y hy=>hv y (by simp [hy]))
  by_cases hx:x.b<v
  ·exact ⟨x::A,B,rfl,by simpa using ⟨hx,hA⟩,hB⟩
  ·have hxv:x.b=v:=by have:=hv x (by simp); omega
   have:A=[]:=by
    cases A with
    | nil=>rfl
    | cons a A=>
     have h1:=hA a (by simp)
     have h2:=h'.1 a (by simp)
     omega
   subst this
   exact ⟨[],x::B,rfl,by simp,by simpa using ⟨hxv,hB⟩⟩
theorem zEi{A B:List Plc}{v:Int}(hA:∀ x∈A,x.b<v)(hB:∀ x∈B,x.b=v):zaK v (A++B)=B.length:=by
 unfold zaK
 rw [XX,X0.2 (fun x hx=>by have:=hA x hx; simp; omega),Xf.2 (fun x hx=>by simp [hB x hx])]
 rfl
theorem zDz{l:List Plc}(h:Srt l)(v:Int)(i:Nat)(hi:i<l.length):(l.take i).all (fun x=>decide (x.b≤v))=!(zlY l i v):=by
 unfold zlY
 cases i with
 | zero=>cases hl:l[0-1]? <;> simp
 | succ i=>
  rw [Nat.add_sub_cancel,Wb (by omega)]
  simp only
  rw [Bool.eq_iff_iff]
  simp only [QN,decide_eq_true_eq,Q8,Bool.and_eq_false_imp,decide_eq_false_iff_not]
  constructor
  ·intro H _ hgt
   have:=H l[i] (XW.2 ⟨i,by omega,rfl⟩)
   omega
  ·intro H x hx
   have H:=H (by omega)
   obtain ⟨j,hj,rfl⟩:=XW.1 hx
   by_cases hji:j=i
   ·subst hji; omega
   ·have:=X4.1 h j i (by omega) (by omega) (by omega)
    omega
theorem zHz{l:List Plc}{i:Nat}(hi:i<l.length)(v:Int)(h:Srt (l.take i))(hv:∀ x∈l.take i,x.b≤v):zqm l i v=!(decide (zaK v (l.take i)≤7)):=by
 obtain ⟨A,B,hAB,hA,hB⟩:=h.split v hv
 rw [hAB,zEi hA hB]
 have hlen:i=A.length+B.length:=by
  have:=congrArg XG hAB
  rw [Ww,Wm,Nat.min_eq_left (by omega)] at this
  exact this
 unfold zqm
 rw [Wb (by omega)]
 simp only
 by_cases h8:8≤i
 ·have e:l[i-8]'(by omega)=(A++B)[i-8]'(by rw [Wm]; omega):=by
   have:(l.take i)[i-8]'(by rw [Ww]; omega)=l[i-8]'(by omega):=List.getElem_take
   rw [← this]
   simp only [hAB]
  rw [decide_eq_true h8,XS,e]
  by_cases h7:B.length≤7
  ·rw [decide_eq_true h7,Yc (by omega)]
   have:=hA (A[i-8]'(by omega)) (W1 _)
   rw [beq_eq_false_iff_ne.2 (by omega)]; rfl
  ·rw [decide_eq_false h7,Yb (by omega)]
   rw [hB _ (W1 _),beq_self_eq_true]; rfl
 ·rw [decide_eq_false h8,Xo,decide_eq_true (by omega)]; rfl
theorem zur(a:Adr):yz a a=true:=by simp [yz]
theorem zG5{l:List Plc}{i:Nat}(hi:i<l.length):zpN l i=!((l.take i).any (fun x=>yz x.a l[i].a)):=by
 unfold zpN
 rw [Wb hi]
 simp only
 rcases znu (fun x:Plc=>yz x.a l[i].a) l 0 with ⟨h1,h2⟩ | ⟨j,hj,h1,h2,h3⟩
 ·have:=h2 l[i] (W1 hi)
  simp only [zur] at this
  cases this
 ·rw [h1,WB]
  by_cases hij:j=i
  ·subst hij
   rw [beq_self_eq_true]
   have:(l.take j).any (fun x=>yz x.a l[j].a)=false:=by
    rw [X5]
    intro x hx; rw [h2 x hx]; simp
   rw [this]; rfl
  ·have hlt:j<i:=by
    rcases Nat.lt_or_gt_of_ne hij with h | h
    ·exact h
    ·have:=h2 l[i] (XW.2 ⟨i,by omega,rfl⟩)
     simp only [zur] at this
     cases this
   rw [beq_eq_false_iff_ne.2 (by omega)]
   have:(l.take i).any (fun x=>yz x.a l[i].a)=true:=List.any_eq_true.2 ⟨l[j],XW.2 ⟨j,by omega,rfl⟩,h3⟩
   rw [this]; rfl
theorem zFP(bk:Plc→Int){l:List Plc}{i:Nat}(hi:i<l.length)(h:Srt (l.take i)):zqk bk l i=okS bk [] (l.take i) l[i]:=by
 unfold zqk okS
 rw [Wb hi]
 simp only
 by_cases hb:l[i].b=bk l[i]
 ·rw [beq_iff_eq.2 hb,XS,XS,← hb,zG5 hi]
  have hl:(l.take i).all (fun x=>decide (x.b≤l[i].b))=!(zlY (l.take i++[l[i]]) i l[i].b):=by
   by_cases ha:∀ x∈l.take i,x.b≤l[i].b
   ·rw [← zDz (h.snoc ha) _ i (by rw [Wm,Ww]; simp; omega),Yi (by rw [Ww]; omega)]
   ·have e1:(l.take i).all (fun x=>decide (x.b≤l[i].b))=false:=by
     rw [Bool.eq_false_iff]
     intro hh
     apply ha
     intro x hx
     have:=QN.1 hh x hx
     simpa using this
    rw [e1]
    have hex:∃ x∈l.take i,l[i].b<x.b:=by
     apply Classical.byContradiction
     intro hn
     exact ha (fun x hx=>by
      apply Classical.byContradiction
      intro h2
      exact hn ⟨x,hx,by omega⟩)
    obtain ⟨x,hx,hlt⟩:=hex
    obtain ⟨j,hj,rfl⟩:=XW.1 hx
    unfold zlY
    rw [Wv (by rw [Ww]; omega),Yd (by omega),Wb (by omega)]
    simp only
    have:l[j].b≤(l[i-1]'(by omega)).b:=by
     by_cases hji:j=i-1
     ·subst hji; exact Yp _
     ·have:=X4.1 h j (i-1) (by rw [Ww]; omega) (by rw [Ww]; omega) (by omega)
      simpa using this
    rw [decide_eq_true (by omega:0<i),decide_eq_true (by omega)]
    rfl
  have hl2:zlY (l.take i++[l[i]]) i l[i].b=zlY l i l[i].b:=by
   rw [← XU hi]
   unfold zlY
   by_cases h0:0<i
   ·rw [Yd (by omega)]
   ·rw [decide_eq_false h0]
    cases (XI (i+1) l)[i-1]? <;> cases l[i-1]? <;> simp
  rw [hl2] at hl
  rw [hl]
  cases hless:zlY l i l[i].b with
  | true=>rfl
  | false=>
   rw [hless] at hl
   have ha:∀ x∈l.take i,x.b≤l[i].b:=fun x hx=>by simpa using QN.1 hl x hx
   rw [zHz hi _ h ha]
   simp [Yn]
 ·rw [beq_eq_false_iff_ne.2 hb]; rfl
theorem zz2(bk:Plc→Int)(l:List Plc):∀ (n i:Nat),i+n=l.length→Srt (l.take i)→znt (zqk bk l) i n=okA bk [] (l.take i) (l.drop i)
 | 0,i,h,hs=>by rw [WI (by omega)]; rfl
 | n+1,i,h,hs=>by
  rw [znt,WP (by omega),okA,zFP bk (by omega) hs]
  cases ho:okS bk [] (l.take i) (l[i]'(by omega)) with
  | false=>rfl
  | true=>
   have hi:i<l.length:=by omega
   rw [XS,XS,zz2 bk l n (i+1) (by omega) (by rw [XU hi]; exact hs.snoc (zF7 ho)),XU hi]
theorem zrd(bk:Plc→Int)(l:List Plc):zfk bk l=(decide (l.length≤512)&&okA bk [] [] l):=by
 unfold zfk
 rw [zz2 bk l l.length 0 (by omega) (by simp [Srt])]
 rfl
structure TOk (bk:Plc→Int) (N:List Adr) (l:List Plc):Prop where
 b:∀ e∈l,e.b=bk e
 s:Srt l
 c:∀ v,zaK v l≤8
 n:l.Pairwise (fun x y=>yz x.a y.a=false)
 f:∀ e∈l,∀ a∈N,yz a e.a=false
theorem ziM(v:Int)(pre:List Plc)(e:Plc):zaK v (pre++[e])=zaK v pre+if e.b=v then 1 else 0:=by
 unfold zaK
 rw [XX,Wm]
 by_cases h:e.b=v <;> simp [h]
theorem TOk.snoc(bk:Plc→Int)(N:List Adr)(pre:List Plc)(e:Plc):TOk bk N (pre++[e])↔TOk bk N pre∧okS bk N pre e=true:=by
 simp only [okS,Wg,QN,decide_eq_true_eq,beq_iff_eq,Q8,X5,Ye]
 constructor
 ·intro h
  have hs:=Xr.1 h.s
  have hn:=Xr.1 h.n
  refine ⟨⟨fun x hx=>h.b x (by simp [hx]),hs.1,fun v=>?_,hn.1,fun x hx=>h.f x (by simp [hx])⟩,h.b e (by simp),fun x hx=>hs.2.2 x hx e (by simp),?_,fun x hx=>hn.2.2 x hx e (by simp),h.f e (by simp)⟩
  ·have:=h.c v; rw [ziM] at this; omega
  ·have:=h.c e.b; rw [ziM,if_pos rfl] at this; omega
 ·rintro ⟨h,h1,h2,h3,h4,h5⟩
  refine ⟨?_,h.s.snoc h2,fun v=>?_,?_,?_⟩
  ·intro x hx
   rcases QC.1 hx with hx | hx
   ·exact h.b x hx
   ·simp at hx; subst hx; exact h1
  ·rw [ziM]
   split
   ·rename_i hv; subst hv; omega
   ·have:=h.c v; omega
  ·rw [Xr]
   exact ⟨h.n,by simp,fun x hx y hy=>by simp at hy; subst hy; exact h4 x hx⟩
  ·intro x hx
   rcases QC.1 hx with hx | hx
   ·exact h.f x hx
   ·simp at hx; subst hx; exact h5
theorem TOk.nil(bk:Plc→Int)(N:List Adr):TOk bk N []:=⟨by simp,List.Pairwise.nil,by simp [zaK],List.Pairwise.nil,by simp⟩
theorem zAi(bk:Plc→Int)(N:List Adr):∀ (l pre:List Plc),TOk bk N pre→(okA bk N pre l=true↔TOk bk N (pre++l))
 | [],pre,h=>by simp [okA,h]
 | e::l,pre,h=>by
  rw [okA,Wg,show pre++e::l=(pre++[e])++l by simp]
  constructor
  ·rintro ⟨h1,h2⟩
   exact (zAi bk N l (pre++[e]) ((TOk.snoc bk N pre e).2 ⟨h,h1⟩)).1 h2
  ·intro H
   have hp:TOk bk N (pre++[e]):=by
    have hs:=Xr.1 H.s
    have hn:=Xr.1 H.n
    refine ⟨fun x hx=>H.b x (Xc _ hx),hs.1,fun v=>?_,hn.1,fun x hx=>H.f x (Xc _ hx)⟩
    have:=H.c v
    unfold zaK at this ⊢
    rw [XX,Wm] at this
    omega
   exact ⟨((TOk.snoc bk N pre e).1 hp).2,(zAi bk N l (pre++[e]) hp).2 H⟩
end
section
variable {β:Type}
theorem zA5(bk:Plc→Int){l:List Plc}{i:Nat}(h:i<l.length):zqk bk l i=(l[i].b==bk l[i]&&!(zlY l i (bk l[i]))&&!(zqm l i (bk l[i]))&&zpN l i):=by
 unfold zqk; rw [Wb h]
theorem zE2(L:Nat)(s:List Int)(hs:s.length=32)(ps:List Plc)(hp:ps.length≤1000)(hL:ps.length<L)(k:Bool→Option β):∀ (m i:Nat),i≤ps.length→ps.length-i<m →
  zby yf xc ye (L+100) k (k true) m (xG ps) true (i:Int) (row .u8 s)=k (znt (zqk (fun e=>hbk s e.a e.s) ps) i (ps.length-i)):=by
 intro m
 induction m with
 | zero=>intro i h1 h2; omega
 | succ m IH=>
  intro i h1 h2
  unfold zby zhv
  rw [yP]
  by_cases h:i<ps.length
  ·have e1:XI 3 (XJ 1 ps[i].v)=ps[i].a.v:=rfl
   have ih:=IH (i+1) (by omega) (by omega)
   have e4:ps.length-i=(ps.length-(i+1))+1:=by omega
   rw [zap (by omega),zrt hs,yb (by rw [zc7,hs]; omega),zcc (zcg h),e1,zFh L s hs]
   rw [e4,znt,zA5 _ h]
   rw [zlx,yb (by rw [zc7,hs]; omega),zcc (zcg h),zcc (zcg h),zE (n:=ps[i].s) rfl,e1,zHk L s hs]
   refine (zGh (L+100) ps hp (by omega) i h _ _ (fun x=>zby yf xc ye (L+100) k (k true) m (xG ps) true x (row .u8 s))).trans ?_
   rw [ih]
   cases (ps[i].b==hbk s ps[i].a ps[i].s&&!(zlY ps i (hbk s ps[i].a ps[i].s))&&!(zqm ps i (hbk s ps[i].a ps[i].s))&&zpN ps i) <;> rfl
  ·rw [zaD (by omega),show ps.length-i=0 by omega]; rfl
theorem zEw(L:Nat)(s:List Int)(hs:s.length=32)(ps:List Plc)(hp:ps.length≤1000)(hL:ps.length<L)(k:Bool→Option β):∀ (m i:Nat),i≤ps.length→ps.length-i<m →
  zby yf xc ye (L+100) k (k true) m (xG ps) false (i:Int) (row .u8 s)=k (znt (zqk (fun e=>tbk s e.a) ps) i (ps.length-i)):=by
 intro m
 induction m with
 | zero=>intro i h1 h2; omega
 | succ m IH=>
  intro i h1 h2
  unfold zby zhv
  rw [yP]
  by_cases h:i<ps.length
  ·have e1:XI 3 (XJ 1 ps[i].v)=ps[i].a.v:=rfl
   have ih:=IH (i+1) (by omega) (by omega)
   have e4:ps.length-i=(ps.length-(i+1))+1:=by omega
   rw [zap (by omega),zrt hs,yb (by rw [zc7,hs]; omega),zcc (zcg h),e1,zFh L s hs]
   rw [e4,znt,zA5 _ h]
   rw [ze6]
   refine (zGh (L+100) ps hp (by omega) i h _ _ (fun x=>zby yf xc ye (L+100) k (k true) m (xG ps) false x (row .u8 s))).trans ?_
   rw [ih]
   cases (ps[i].b==tbk s ps[i].a&&!(zlY ps i (tbk s ps[i].a))&&!(zqm ps i (tbk s ps[i].a))&&zpN ps i) <;> rfl
  ·rw [zaD (by omega),show ps.length-i=0 by omega]; rfl
theorem zIM(L:Nat)(s:List Int)(hs:s.length=32)(ps:List Plc)(hp:ps.length≤1000)(hL:ps.length<L)(k:Bool→Option β) :
  zo β (L+100) (row .u8 s) (xG ps) true k=k (zfk (fun e=>hbk s e.a e.s) ps):=by
 unfold zo zjE zmB zfk
 rw [yP,zag]
 by_cases h:ps.length≤512
 ·rw [if_neg (by omega),decide_eq_true h,XS]
  refine (zE2 L s hs ps hp hL k (L+100) 0 (by omega) (by omega)).trans ?_
  rw [Yg]
 ·rw [if_pos (by omega),decide_eq_false h]; rfl
theorem zIT(L:Nat)(s:List Int)(hs:s.length=32)(ps:List Plc)(hp:ps.length≤1000)(hL:ps.length<L)(k:Bool→Option β) :
  zo β (L+100) (row .u8 s) (xG ps) false k=k (zfk (fun e=>tbk s e.a) ps):=by
 unfold zo zjE zmB zfk
 rw [yP,zag]
 by_cases h:ps.length≤512
 ·rw [if_neg (by omega),decide_eq_true h,XS]
  refine (zEw L s hs ps hp hL k (L+100) 0 (by omega) (by omega)).trans ?_
  rw [Yg]
 ·rw [if_pos (by omega),decide_eq_false h]; rfl
def hbf(s:List Int)(e:Plc):Int:=hbk s e.a e.s
def tbf(s:List Int)(e:Plc):Int:=tbk s e.a
def zg8(b:Bk):Bool:=zfk (hbf b.salt) b.H&&(zfk (tbf b.salt) b.T&&b.H.all (fun e=>!(b.T.any (fun x=>yz x.a e.a))))
theorem zHI(L:Nat)(b:Bk)(hH:b.H.length≤1000)(hT:b.T.length≤1000)(hL:b.T.length<L)(k:Bool→Option β):∀ (m i:Nat),i≤b.H.length→b.H.length-i<m →
  ze8 zo ye L k (k true) m (i:Int) b.v=k ((b.H.drop i).all (fun e=>!(b.T.any (fun x=>yz x.a e.a)))):=by
 intro m
 induction m with
 | zero=>intro i h1 h2; omega
 | succ m IH=>
  intro i h1 h2
  unfold ze8 zlw
  rw [zcy b.g32,yP]
  by_cases h:i<b.H.length
  ·have e1:XI 3 (XJ 1 b.H[i].v)=b.H[i].a.v:=rfl
   rw [zap (by omega),zcy b.g33,zcy b.g32,zcc (zcg h),e1,zAw L b.T (by omega) hL,zDS,WP h,List.all_cons,ym,yT (by omega)]
   have ih:=IH (i+1) (by omega) (by omega)
   cases (b.T.any fun x=>yz x.a b.H[i].a) with
   | true=>rfl
   | false=>exact ih
  ·rw [zaD (by omega),WI (by omega)]; rfl
theorem Bk.t32(b:Bk):XI 32 b.v=row .u8 b.salt:=by
 rw [Bk.v,Yi (by rw [zc7,b.hs])]
theorem zF0(L:Nat)(b:Bk)(hH:b.H.length≤1000)(hT:b.T.length≤1000)(hL:1000<L)(k:Bool→Option β):yL β (L+100) b.v k=k (zg8 b):=by
 unfold yL zmD zqB zg8
 rw [yb (by rw [b.len]; omega),zcy b.g32,b.t32,zIM L b.salt b.hs b.H hH (by omega)]
 have eH:zfk (fun e=>hbk b.salt e.a e.s) b.H=zfk (hbf b.salt) b.H:=rfl
 have eT:zfk (fun e=>tbk b.salt e.a) b.T=zfk (tbf b.salt) b.T:=rfl
 rw [eH]
 cases zfk (hbf b.salt) b.H with
 | false=>rfl
 | true=>
  rw [Xg,ze6,yb (by rw [b.len]; omega),zcy b.g33,zIT L b.salt b.hs b.T hT (by omega),eT]
  cases zfk (tbf b.salt) b.T with
  | false=>rfl
  | true=>
   rw [Xg,ze6]
   exact zHI (L+100) b hH hT (by omega) k (L+100) 0 (by omega) (by omega)
end
section
variable {β:Type}
theorem zzl(n:Int):0≤QF .u64 n∧QF .u64 n≤18446744073709551615:=by
 unfold QF
 simp only [IntKind.signed,Xo,WO,if_false,IntKind.bits]
 have h1:=Int.emod_nonneg n (show (2 ^ 64:Int)≠0 by decide)
 have h2:=Int.emod_lt_of_pos n (show (0:Int)<2 ^ 64 by decide)
 omega
theorem zBv(s m1:List Int)(m2:Int→List Int):0≤bkt s m1 m2∧bkt s m1 m2<64:=by
 unfold bkt
 generalize hx:zkn (zw0 s) (zv1 s) (m2 (QF .u32 (XM (zkn (zw0 s) (zv1 s) m1) 4)))=x
 have h0:0≤x:=by
  rw [← hx]; unfold zkn zCo zzz zbf; exact (zzl _).1
 have h1:=Int.tmod_nonneg 64 h0
 have h2:=Ya x (show (0:Int)<64 by decide)
 rw [zZ (by omega) (by omega)]
 exact ⟨h1,h2⟩
theorem zBf(s:List Int)(e:Plc):0≤hbf s e∧hbf s e<64:=by unfold hbf hbk; exact zBv _ _ _
theorem zBD(s:List Int)(e:Plc):0≤tbf s e∧tbf s e<64:=by unfold tbf tbk; exact zBv _ _ _
def nmv(a:Adr):V:=.agg [.sc (.int .u32 a.h),.sc (.int .u16 a.p)]
def zdq(N:List Adr):List (V × V):=N.map fun a=>(nmv a,.sc (.bool true))
theorem zCu(a b:Adr):zkp (nmv a) (nmv b)=some (yz a b):=by
 simp [zkp,nmv,zjH,yz]
theorem zfU(a b:Adr):yz a b=yz b a:=by
 unfold yz; rw [Bool.beq_comm (a:=a.h),Bool.beq_comm (a:=a.p)]
theorem zxY(a:Adr):∀ N:List Adr,zq7 (nmv a) (zdq N)=some (if N.any (fun x=>yz x a) then some (.sc (.bool true)) else none)
 | []=>rfl
 | x::N=>by
  have ih:=zxY a N
  simp only [zdq,QV,zq7,zCu,List.any_cons,zfU x a] at ih ⊢
  cases yz a x with
  | true=>rfl
  | false=>simpa using ih
theorem zzS(a:Adr):∀ N:List Adr,N.any (fun x=>yz x a)=false→zyp (nmv a) (.sc (.bool true)) (zdq N)=some (zdq (N++[a]))
 | [],_=>rfl
 | x::N,h=>by
  rw [List.any_cons,Bool.or_eq_false_iff,zfU] at h
  have ih:=zzS a N h.2
  simp only [zdq,QV,zyp,zCu,h.1,List.cons_append] at ih ⊢
  rw [ih]; rfl
theorem zBr(a:Adr)(N:List Adr)(K:Bool→Option β):(mAt 4 (V.agg (XI 2 [(Qc a.h),(Qb a.p)])) (zdq N) fun q=>aB (XL q (V.sc (.bool false))) K)=K (N.any (fun x=>yz x a)):=by
 have e:V.agg (XI 2 [(Qc a.h),(Qb a.p)])=nmv a:=rfl
 rw [e]
 have h:ziW 4 (nmv a)=true:=rfl
 simp only [mAt,h,zxY]
 cases N.any (fun x=>yz x a) <;> rfl
theorem zAa{a:Adr}{N:List Adr}(h:N.any (fun x=>yz x a)=false)(K:List (V × V)→Option β):ztn 4 (V.agg (XI 2 [(Qc a.h),(Qb a.p)])) (V.sc (.bool true)) (zdq N) K=K (zdq (N++[a])):=by
 have e:V.agg (XI 2 [(Qc a.h),(Qb a.p)])=nmv a:=rfl
 rw [e]
 have h':ziW 4 (nmv a)=true:=rfl
 simp only [ztn,h',zzS a N h]
theorem zJf(L:Nat)(b:Bk)(e:Plc)(k:Int→List V→Option β):yi β (L+100) e.v b.v k=k (hbf b.salt e) b.v:=by
 unfold yi zlr
 have e1:XI 3 (XJ 1 e.v)=e.a.v:=rfl
 rw [yb (by rw [b.len]; omega),yb (by show 1+3≤5; omega),zE (n:=e.s) rfl,b.t32,e1,zEr L b.salt b.hs]
 rfl
theorem zJk(L:Nat)(b:Bk)(e:Plc)(k:Int→List V→Option β):xi β (L+100) e.v b.v k=k (tbf b.salt e) b.v:=by
 unfold xi zlk
 have e1:XI 3 (XJ 1 e.v)=e.a.v:=rfl
 rw [yb (by rw [b.len]; omega),yb (by show 1+3≤5; omega),b.t32,e1,zHm L b.salt b.hs]
 rfl
theorem zA7{v:Int}{pre:List Plc}(h:∀ x∈pre,x.b<v):zaK v pre=0:=by
 unfold zaK
 rw [X0.2 (fun x hx=>by have:=h x hx; simp; omega)]; rfl
structure Inv (pre:List Plc) (la ru:Int):Prop where
 le:∀ x∈pre,x.b≤la
 ru:ru=(zaK la pre:Nat)
 ex:(la=-1∧pre=[])∨∃ x∈pre,x.b=la
 mn:-1≤la
theorem Inv.next{pre:List Plc}{la ru:Int}(h:Inv pre la ru){e:Plc}(he:la≤e.b):Inv (pre++[e]) e.b ((zaK e.b (pre++[e]):Nat):Int):=
 ⟨fun x hx=>by
  rcases QC.1 hx with hx | hx
  ·have:=h.le x hx; omega
  ·simp at hx; subst hx; exact Yp _,rfl,.inr ⟨e,by simp,rfl⟩,by have:=h.mn; omega⟩
theorem zFk{bk:Plc→Int}{N:List Adr}{pre:List Plc}{la ru:Int}(h:Inv pre la ru){e:Plc}(hb:0≤bk e)(he:e.b<la):okS bk N pre e=false:=by
 rw [Bool.eq_false_iff]
 intro H
 have h1:=zF7 H
 rcases h.ex with ⟨h2,h3⟩ | ⟨x,hx,h2⟩
 ·simp only [okS,Wg,beq_iff_eq] at H
  omega
 ·have:=h1 x hx; omega
theorem zF8{bk:Plc→Int}{N:List Adr}{pre:List Plc}{la ru:Int}(h:Inv pre la ru){e:Plc}(he:la≤e.b):okS bk N pre e=(e.b==bk e&&(decide (zaK e.b (pre++[e])≤8)&&!((N++pre.map Plc.a).any (fun a=>yz a e.a)))):=by
 unfold okS
 have h1:pre.all (fun x=>decide (x.b≤e.b))=true:=QN.2 fun x hx=>decide_eq_true (by have:=h.le x hx; omega)
 rw [h1,XS,ziM,if_pos rfl,List.any_append,List.any_map,Bool.not_or]
 have e1:decide (zaK e.b pre+1≤8)=decide (zaK e.b pre≤7):=decide_eq_decide.2 (by omega)
 rw [e1]
 congr 2
 rw [Bool.and_comm]; rfl
theorem zFd(L:Nat)(b:Bk)(l:List Plc)(hl:l.length≤1000)(N:List Adr)(kr:Bool→List (V × V)→List V→Option β)(kx:List (V × V)→List V→Option β)(R:Option β)(hr:∀ mp,kr false mp b.v=R):∀ (m i:Nat) (la ru:Int),i≤l.length→l.length-i<m→Inv (l.take i) la ru →
  zcu yi (L+100) kr kx m la ru (xG l) ((l.length:Nat):Int) (i:Int) (zdq (N++(l.take i).map Plc.a)) b.v=ifb (okA (hbf b.salt) N (l.take i) (l.drop i)) (kx (zdq (N++l.map Plc.a)) b.v) R:=by
 intro m
 induction m with
 | zero=>intro i la ru h1 h2; omega
 | succ m IH=>
  intro i la ru h1 h2 hi
  unfold zcu zhM
  by_cases h:i<l.length
  ·have e1:XI 5 l[i].v=l[i].v:=rfl
   have e2:xg [(Qe (0:Int)),(Qc (0:Int)),(Qb (0:Int)),(Qc (0:Int)),(Qc (0:Int))] 0 l[i].v=l[i].v:=znc rfl
   have hcl:zaK la (l.take i)≤l.length:=by
    unfold zaK
    exact QD (Ym _ _) (by rw [Ww]; omega)
   rw [zap (by omega),zcc (zcg h),e1,yb ⟨rfl,by omega⟩,ym,e2,zE (n:=l[i].b) rfl,zag,WP h,okA]
   by_cases hlt:l[i].b<la
   ·rw [if_pos hlt,zFk hi (zBf _ _).1 hlt,Xo,hr]; rfl
   ·rw [if_neg hlt,zE (n:=l[i].b) rfl,yb (by show 0+5≤5; omega),e1,zJf,yb rfl,zjG,zF8 hi (by omega)]
    by_cases hb:l[i].b=hbf b.salt l[i]
    ·have hi':=hi.next (e:=l[i]) (by omega)
     have key:∀ ru':Int,ru'=((zaK l[i].b (l.take i++[l[i]]):Nat):Int) →
       (cI .u32 l[i].v 1 fun v9=>
        cI .u16 l[i].v 2 fun v10=>
        lt [(Qc v9),(Qb v10)] fun r11=>
        ifb (decide (ru'>(8:Int))) (
        kr false (zdq (N++(l.take i).map Plc.a)) b.v) (
        chk (0+2≤(XG r11)) (
        mAt 4 (V.agg (XI 2 r11)) (zdq (N++(l.take i).map Plc.a)) fun q12=>
        aB (XL q12 (V.sc (.bool false))) fun v13=>
        ifb v13 (
        kr false (zdq (N++(l.take i).map Plc.a)) b.v) (
        chk (0+2≤(XG r11)) (
        ztn 4 (V.agg (XI 2 r11)) (V.sc (.bool true)) (zdq (N++(l.take i).map Plc.a)) fun m14=>
        lt (QF .i64 ((i:Int)+(1:Int))) fun x15=>
        zcu yi (L+100) kr kx m l[i].b ru' (xG l) ((l.length:Nat):Int) x15 m14 b.v)))))
       = ifb (decide (zaK l[i].b (l.take i++[l[i]])≤8)&&!((N++(l.take i).map Plc.a).any (fun a=>yz a l[i].a))&&okA (hbf b.salt) N (l.take i++[l[i]]) (l.drop (i+1))) (kx (zdq (N++l.map Plc.a)) b.v) R:=by
      intro ru' hru
      rw [zE (n:=l[i].a.h) rfl,zE (n:=l[i].a.p) rfl,ym,zag]
      by_cases hc:zaK l[i].b (l.take i++[l[i]])≤8
      ·rw [if_neg (by omega),decide_eq_true hc,XS,yb (by show 0+2≤2; omega),zBr]
       cases ha:(N++(l.take i).map Plc.a).any (fun a=>yz a l[i].a) with
       | true=>exact hr _
       | false=>
        rw [ze6,yb (by show 0+2≤2; omega),zAa ha,ym,yT (by omega)]
        have ih:=IH (i+1) l[i].b ru' (by omega) (by omega) (by rw [XU h,hru]; exact hi')
        rw [XU h,List.map_append,QV,Yh,← Wu] at ih
        exact ih
      ·rw [if_pos (by omega),decide_eq_false hc,hr]; rfl
     rw [if_pos hb,zE (n:=l[i].b) rfl,zjG,beq_iff_eq.2 hb,XS]
     by_cases hll:l[i].b=la
     ·rw [if_pos hll,ym,← hll]
      have e3:QF .i64 (ru+1)=((zaK l[i].b (l.take i++[l[i]]):Nat):Int):=by
       rw [hi.ru,zZ (by omega) (by omega),ziM,if_pos rfl,hll]; omega
      exact key _ e3
     ·rw [if_neg hll,zE (n:=l[i].b) rfl,ym]
      have e3:QF .i64 (((0:Int):Int)+1)=((zaK l[i].b (l.take i++[l[i]]):Nat):Int):=by
       rw [zZ (by omega) (by omega),ziM,if_pos rfl,zA7 (fun x hx=>by have:=hi.le x hx; omega)]; rfl
      exact key _ e3
    ·rw [if_neg hb,beq_eq_false_iff_ne.2 hb,hr]; rfl
  ·rw [zaD (by omega),WI (by omega),Xu (by omega)]; rfl
theorem zIO(L:Nat)(b:Bk)(l:List Plc)(hl:l.length≤1000)(hL:1000<L)(N:List Adr)(k:Bool→List (V × V)→List V→Option β)(R:Option β)(hr:∀ mp,k false mp b.v=R) :
  yW β (L+100) (xG l) (zdq N) b.v k=ifb (decide (l.length≤512)&&okA (hbf b.salt) N [] l) (k true (zdq (N++l.map Plc.a)) b.v) R:=by
 unfold yW zjg zm4
 rw [yP,zag]
 by_cases h:l.length≤512
 ·rw [if_neg (by omega),decide_eq_true h,XS,show ((0:Int))=((0:Nat):Int) from rfl]
  have:=zFd L b l hl N (fun p6 b0 b1=>zf3 yi (L+100) p6 b0 b1 k) (fun b0 b1=>zgm yi (L+100) b0 b1 k) R (fun mp=>hr mp) (L+100) 0 (-1) 0 (by omega) (by omega) ⟨by simp,rfl,.inl ⟨rfl,rfl⟩,by omega⟩
  rw [Yo,X3,Yh,XZ] at this
  exact this
 ·rw [if_pos (by omega),decide_eq_false h,hr]; rfl
theorem zEC(L:Nat)(b:Bk)(l:List Plc)(hl:l.length≤1000)(N:List Adr)(kr:Bool→List (V × V)→List V→Option β)(kx:List (V × V)→List V→Option β)(R:Option β)(hr:∀ mp,kr false mp b.v=R):∀ (m i:Nat) (la ru:Int),i≤l.length→l.length-i<m→Inv (l.take i) la ru →
  zbG xi (L+100) kr kx m la ru (xG l) ((l.length:Nat):Int) (i:Int) (zdq (N++(l.take i).map Plc.a)) b.v=ifb (okA (tbf b.salt) N (l.take i) (l.drop i)) (kx (zdq (N++l.map Plc.a)) b.v) R:=by
 intro m
 induction m with
 | zero=>intro i la ru h1 h2; omega
 | succ m IH=>
  intro i la ru h1 h2 hi
  unfold zbG zf6
  by_cases h:i<l.length
  ·have e1:XI 5 l[i].v=l[i].v:=rfl
   have e2:xg [(Qe (0:Int)),(Qc (0:Int)),(Qb (0:Int)),(Qc (0:Int)),(Qc (0:Int))] 0 l[i].v=l[i].v:=znc rfl
   have hcl:zaK la (l.take i)≤l.length:=by
    unfold zaK
    exact QD (Ym _ _) (by rw [Ww]; omega)
   rw [zap (by omega),zcc (zcg h),e1,yb ⟨rfl,by omega⟩,ym,e2,zE (n:=l[i].b) rfl,zag,WP h,okA]
   by_cases hlt:l[i].b<la
   ·rw [if_pos hlt,zFk hi (zBD _ _).1 hlt,Xo,hr]; rfl
   ·rw [if_neg hlt,zE (n:=l[i].b) rfl,yb (by show 0+5≤5; omega),e1,zJk,yb rfl,zjG,zF8 hi (by omega)]
    by_cases hb:l[i].b=tbf b.salt l[i]
    ·have hi':=hi.next (e:=l[i]) (by omega)
     have key:∀ ru':Int,ru'=((zaK l[i].b (l.take i++[l[i]]):Nat):Int) →
       (cI .u32 l[i].v 1 fun v9=>
        cI .u16 l[i].v 2 fun v10=>
        lt [(Qc v9),(Qb v10)] fun r11=>
        ifb (decide (ru'>(8:Int))) (
        kr false (zdq (N++(l.take i).map Plc.a)) b.v) (
        chk (0+2≤(XG r11)) (
        mAt 4 (V.agg (XI 2 r11)) (zdq (N++(l.take i).map Plc.a)) fun q12=>
        aB (XL q12 (V.sc (.bool false))) fun v13=>
        ifb v13 (
        kr false (zdq (N++(l.take i).map Plc.a)) b.v) (
        chk (0+2≤(XG r11)) (
        ztn 4 (V.agg (XI 2 r11)) (V.sc (.bool true)) (zdq (N++(l.take i).map Plc.a)) fun m14=>
        lt (QF .i64 ((i:Int)+(1:Int))) fun x15=>
        zbG xi (L+100) kr kx m l[i].b ru' (xG l) ((l.length:Nat):Int) x15 m14 b.v)))))
       = ifb (decide (zaK l[i].b (l.take i++[l[i]])≤8)&&!((N++(l.take i).map Plc.a).any (fun a=>yz a l[i].a))&&okA (tbf b.salt) N (l.take i++[l[i]]) (l.drop (i+1))) (kx (zdq (N++l.map Plc.a)) b.v) R:=by
      intro ru' hru
      rw [zE (n:=l[i].a.h) rfl,zE (n:=l[i].a.p) rfl,ym,zag]
      by_cases hc:zaK l[i].b (l.take i++[l[i]])≤8
      ·rw [if_neg (by omega),decide_eq_true hc,XS,yb (by show 0+2≤2; omega),zBr]
       cases ha:(N++(l.take i).map Plc.a).any (fun a=>yz a l[i].a) with
       | true=>exact hr _
       | false=>
        rw [ze6,yb (by show 0+2≤2; omega),zAa ha,ym,yT (by omega)]
        have ih:=IH (i+1) l[i].b ru' (by omega) (by omega) (by rw [XU h,hru]; exact hi')
        rw [XU h,List.map_append,QV,Yh,← Wu] at ih
        exact ih
      ·rw [if_pos (by omega),decide_eq_false hc,hr]; rfl
     rw [if_pos hb,zE (n:=l[i].b) rfl,zjG,beq_iff_eq.2 hb,XS]
     by_cases hll:l[i].b=la
     ·rw [if_pos hll,ym,← hll]
      have e3:QF .i64 (ru+1)=((zaK l[i].b (l.take i++[l[i]]):Nat):Int):=by
       rw [hi.ru,zZ (by omega) (by omega),ziM,if_pos rfl,hll]; omega
      exact key _ e3
     ·rw [if_neg hll,zE (n:=l[i].b) rfl,ym]
      have e3:QF .i64 (((0:Int):Int)+1)=((zaK l[i].b (l.take i++[l[i]]):Nat):Int):=by
       rw [zZ (by omega) (by omega),ziM,if_pos rfl,zA7 (fun x hx=>by have:=hi.le x hx; omega)]; rfl
      exact key _ e3
    ·rw [if_neg hb,beq_eq_false_iff_ne.2 hb,hr]; rfl
  ·rw [zaD (by omega),WI (by omega),Xu (by omega)]; rfl
theorem zI5(L:Nat)(b:Bk)(l:List Plc)(hl:l.length≤1000)(hL:1000<L)(N:List Adr)(k:Bool→List (V × V)→List V→Option β)(R:Option β)(hr:∀ mp,k false mp b.v=R) :
  yO β (L+100) (xG l) (zdq N) b.v k=ifb (decide (l.length≤512)&&okA (tbf b.salt) N [] l) (k true (zdq (N++l.map Plc.a)) b.v) R:=by
 unfold yO zgN zjM
 rw [yP,zag]
 by_cases h:l.length≤512
 ·rw [if_neg (by omega),decide_eq_true h,XS,show ((0:Int))=((0:Nat):Int) from rfl]
  have:=zEC L b l hl N (fun p6 b0 b1=>zeL xi (L+100) p6 b0 b1 k) (fun b0 b1=>zfb xi (L+100) b0 b1 k) R (fun mp=>hr mp) (L+100) 0 (-1) 0 (by omega) (by omega) ⟨by simp,rfl,.inl ⟨rfl,rfl⟩,by omega⟩
  rw [Yo,X3,Yh,XZ] at this
  exact this
 ·rw [if_pos (by omega),decide_eq_false h,hr]; rfl
def zxe(b:Bk):Bool:=(decide (b.H.length≤512)&&okA (hbf b.salt) [] [] b.H)&&(decide (b.T.length≤512)&&okA (tbf b.salt) (b.H.map Plc.a) [] b.T)
theorem zzZ(L:Nat)(b:Bk)(hH:b.H.length≤1000)(hT:b.T.length≤1000)(hL:1000<L)(k:Bool→Option β):xb β (L+100) b.v k=k (zxe b):=by
 unfold xb zm2 zxe
 rw [zcy b.g32]
 refine (zIO L b b.H hH hL [] _ (k false) (fun mp=>yb rfl _)).trans ?_
 rw [XB]
 cases (decide (b.H.length≤512)&&okA (hbf b.salt) [] [] b.H) with
 | false=>rfl
 | true=>
  rw [zlx,yb rfl,zlx,zcy b.g33]
  refine (zI5 L b b.T hT hL _ _ (k false) (fun mp=>yb rfl _)).trans ?_
  cases (decide (b.T.length≤512)&&okA (tbf b.salt) (b.H.map Plc.a) [] b.T) with
  | false=>rfl
  | true=>exact yb rfl _
theorem zIZ(bk:Plc→Int)(N:List Adr)(pre:List Plc)(e:Plc):okS bk N pre e=(okS bk [] pre e&&!(N.any (fun a=>yz a e.a))):=by
 unfold okS
 simp [Yn]
theorem zHj(bk:Plc→Int)(N:List Adr):∀ (l pre:List Plc),okA bk N pre l=(okA bk [] pre l&&l.all (fun e=>!(N.any (fun a=>yz a e.a))))
 | [],pre=>rfl
 | e::l,pre=>by
  rw [okA,okA,zIZ,zHj bk N l,List.all_cons]
  cases okS bk [] pre e <;> cases (N.any (fun a=>yz a e.a)) <;> simp
theorem zGT(H T:List Plc):T.all (fun e=>!((H.map Plc.a).any (fun a=>yz a e.a)))=H.all (fun e=>!(T.any (fun x=>yz x.a e.a))):=by
 rw [Bool.eq_iff_iff]
 simp only [QN,Q8,X5,Xl,Ye,forall_exists_index,and_imp,forall_apply_eq_imp_iff₂]
 constructor
 ·intro h x hx e he; rw [zfU]; exact h e he x hx
 ·intro h x hx e he; rw [zfU]; exact h e he x hx
theorem zu9(b:Bk):zxe b=zg8 b:=by
 unfold zxe zg8
 rw [zrd,zrd,zHj (tbf b.salt) (b.H.map Plc.a),zGT]
 simp [Yn]
end
section
def xv(l:List Plc)(v:Int):Nat:=(l.takeWhile (fun x=>decide (x.b<v))).length
def toN(l:List Plc)(v:Int):Nat:=xv l v+((l.drop (xv l v)).takeWhile (fun x=>x.b==v)).length
def zgt(l:List Plc)(p:Plc):List Plc:=l.take (toN l p.b)++[p]++l.drop (toN l p.b)
def xU(l:List Plc)(i:Nat):List Plc:=l.take i++l.drop (i+1)
def zGQ(t:Int)(e:Plc):Plc:=⟨e.b,⟨e.a.h,e.a.p,zAS e.a.t t⟩,e.s⟩
def zsi(l:List Plc)(i:Nat)(t:Int):List Plc:=l.modify i (zGQ t)
def zuf(l:List Plc)(i:Nat):Int:=match l[i]? with | some e=>e.a.t | none=>0
def zcs(l:List Plc):Nat→Nat→Nat→Nat
 | 0,_,m=>m
 | n+1,i,m=>zcs l n (i+1) (if zuf l i<zuf l m then i else m)
def zec(b:Bk)(a:Adr)(src:Int):Bk × Bool:=
 if zbZ (fun x=>yz x.a a) b.T 0≥0 then (⟨b.salt,b.H,zsi b.T (zbZ (fun x=>yz x.a a) b.T 0).toNat a.t,b.hs⟩,false)
 else if zbZ (fun x=>yz x.a a) b.H 0≥0 then (⟨b.salt,zsi b.H (zbZ (fun x=>yz x.a a) b.H 0).toNat a.t,b.T,b.hs⟩,false)
 else if toN b.H (hbk b.salt a src)-xv b.H (hbk b.salt a src)≥8 then
  (if zuf b.H (zcs b.H (toN b.H (hbk b.salt a src)-xv b.H (hbk b.salt a src)) (xv b.H (hbk b.salt a src)) (xv b.H (hbk b.salt a src)))≥a.t then (b,false)
   else (⟨b.salt,zgt (xU b.H (zcs b.H (toN b.H (hbk b.salt a src)-xv b.H (hbk b.salt a src)) (xv b.H (hbk b.salt a src)) (xv b.H (hbk b.salt a src)))) ⟨hbk b.salt a src,a,src⟩,b.T,b.hs⟩,true))
 else (⟨b.salt,zgt b.H ⟨hbk b.salt a src,a,src⟩,b.T,b.hs⟩,true)
def zeA(b:Bk)(e:Plc):Plc:=⟨tbk b.salt e.a,e.a,e.s⟩
def zpU(b:Bk)(i:Nat)(e:Plc):Bk:=
 if toN b.T (tbk b.salt e.a)-xv b.T (tbk b.salt e.a)≥8 then
  (match b.T[xv b.T (tbk b.salt e.a)]? with
   | some o=>(zec ⟨b.salt,xU b.H i,zgt (xU b.T (xv b.T (tbk b.salt e.a))) (zeA b e),b.hs⟩ o.a (grp o.a)).1
   | none=>b)
 else ⟨b.salt,xU b.H i,zgt b.T (zeA b e),b.hs⟩
theorem Srt.split3{l:List Plc}(v:Int)(h:Srt l):∃ A B C:List Plc,l=A++(B++C)∧(∀ x∈A,x.b<v)∧(∀ x∈B,x.b=v)∧(∀ x∈C,v<x.b):=by
 induction l with
 | nil=>exact ⟨[],[],[],rfl,by simp,by simp,by simp⟩
 | cons x l ih=>
  have h':=Xs.1 h
  obtain ⟨A,B,C,rfl,hA,hB,hC⟩:=ih h'.2
  by_cases hx:x.b<v
  ·exact ⟨x::A,B,C,rfl,by simpa using ⟨hx,hA⟩,hB,hC⟩
  ·have eA:A=[]:=by
    cases A with
    | nil=>rfl
    | cons a A=>
     have h1:=hA a (by simp)
     have h2:=h'.1 a (by simp)
     omega
   subst eA
   by_cases hxv:x.b=v
   ·exact ⟨[],x::B,C,rfl,by simp,by simpa using ⟨hxv,hB⟩,hC⟩
   ·have eB:B=[]:=by
     cases B with
     | nil=>rfl
     | cons a B=>
      have h1:=hB a (by simp)
      have h2:=h'.1 a (by simp)
      omega
    subst eB
    exact ⟨[],[],x::C,rfl,by simp,by simp,by simpa using ⟨by omega,hC⟩⟩
theorem zrc{A B C:List Plc}{v:Int}(hA:∀ x∈A,x.b<v)(hB:∀ x∈B,x.b=v)(hC:∀ x∈C,v<x.b):xv (A++(B++C)) v=A.length:=by
 unfold xv
 rw [X8 (fun x hx=>decide_eq_true (hA x hx))]
 have:(B++C).takeWhile (fun x=>decide (x.b<v))=[]:=by
  cases B with
  | cons b B=>rw [List.cons_append,XV,if_neg (by have:=hB b (by simp); simp; omega)]
  | nil=>cases C with
   | nil=>rfl
   | cons c C=>rw [XB,XV,if_neg (by have:=hC c (by simp); simp; omega)]
 rw [this,XZ]
theorem zpo{A B C:List Plc}{v:Int}(hA:∀ x∈A,x.b<v)(hB:∀ x∈B,x.b=v)(hC:∀ x∈C,v<x.b):toN (A++(B++C)) v=A.length+B.length:=by
 unfold toN
 rw [zrc hA hB hC,Yj rfl,X8 (fun x hx=>beq_iff_eq.2 (hB x hx))]
 have:C.takeWhile (fun x=>x.b==v)=[]:=by
  cases C with
  | nil=>rfl
  | cons c C=>rw [XV,if_neg (by have:=hC c (by simp); simp; omega)]
 rw [this,XZ]
theorem zw1{A B C:List Plc}{p:Plc}(hA:∀ x∈A,x.b<p.b)(hB:∀ x∈B,x.b=p.b)(hC:∀ x∈C,p.b<x.b):zgt (A++(B++C)) p=A++(B++(p::C)):=by
 unfold zgt
 rw [zpo hA hB hC,← Wu,Yi (by simp),Yj (by simp)]
 simp
theorem zlI{l' l:List Plc}(h:l'.Sublist l)(v:Int):zaK v l'≤zaK v l:=(h.filter _).length_le
theorem TOk.sub{bk:Plc→Int}{N:List Adr}{l l':List Plc}(h:TOk bk N l)(hs:l'.Sublist l):TOk bk N l':=
 ⟨fun e he=>h.b e (hs.subset he),h.s.sublist hs,fun v=>QD (zlI hs v) (h.c v),h.n.sublist hs,fun e he=>h.f e (hs.subset he)⟩
theorem zdl(l:List Plc)(i:Nat):(xU l i).Sublist l:=by
 unfold xU
 rw [← List.eraseIdx_eq_take_drop_succ]
 exact List.eraseIdx_sublist l i
theorem zrs{l:List Plc}{p x:Plc}(h:x∈zgt l p):x=p∨x∈l:=by
 unfold zgt at h
 simp only [QC,List.mem_singleton] at h
 rcases h with (h | h) | h
 ·exact .inr (List.mem_of_mem_take h)
 ·exact .inl h
 ·exact .inr (List.mem_of_mem_drop h)
theorem TOk.ins{bk:Plc→Int}{N:List Adr}{l:List Plc}(h:TOk bk N l){p:Plc}(hb:p.b=bk p)(hc:zaK p.b l≤7)(hn:∀ x∈l,yz x.a p.a=false)(hf:∀ a∈N,yz a p.a=false):TOk bk N (zgt l p):=by
 obtain ⟨A,B,C,rfl,hA,hB,hC⟩:=h.s.split3 p.b
 have hs:=h.s
 have hnn:=h.n
 refine ⟨fun e he=>?_,?_,fun v=>?_,?_,fun e he=>?_⟩
 ·rcases zrs he with rfl | he
  ·exact hb
  ·exact h.b e he
 ·rw [zw1 hA hB hC]
  unfold Srt at hs ⊢
  simp only [Xr,Xs,QC,Q7] at hs ⊢
  obtain ⟨sA,⟨sB,sC,sBC⟩,sABC⟩:=hs
  refine ⟨sA,⟨sB,⟨fun c hc=>Int.le_of_lt (hC c hc),sC⟩,?_⟩,?_⟩
  ·rintro x hx y (rfl | hy)
   ·rw [hB x hx]; exact Yp _
   ·exact sBC x hx y hy
  ·rintro x hx y (hy | rfl | hy)
   ·exact sABC x hx y (.inl hy)
   ·exact Int.le_of_lt (hA x hx)
   ·exact sABC x hx y (.inr hy)
 ·have hv:=h.c v
  rw [zw1 hA hB hC]
  have e:zaK v (A++(B++p::C))=zaK v (A++(B++C))+if p.b=v then 1 else 0:=by
   unfold zaK
   simp only [XX,Wm,List.filter_cons,beq_iff_eq]
   split <;> simp <;> omega
  rw [e]
  split
  ·rename_i hp; rw [← hp]; omega
  ·omega
 ·rw [zw1 hA hB hC]
  simp only [QC] at hn
  simp only [Xr,Xs,QC,Q7] at hnn ⊢
  obtain ⟨sA,⟨sB,sC,sBC⟩,sABC⟩:=hnn
  refine ⟨sA,⟨sB,⟨fun c hc=>by rw [zfU]; exact hn c (.inr (.inr hc)),sC⟩,?_⟩,?_⟩
  ·rintro x hx y (rfl | hy)
   ·exact hn x (.inr (.inl hx))
   ·exact sBC x hx y hy
  ·rintro x hx y (hy | rfl | hy)
   ·exact sABC x hx y (.inl hy)
   ·exact hn x (.inl hx)
   ·exact sABC x hx y (.inr hy)
 ·rcases zrs he with rfl | he
  ·exact hf
  ·exact h.f e he
theorem zDb{bk:Plc→Int}{N:List Adr}{l:List Plc}(h:TOk bk N l)(v:Int):toN l v-xv l v=zaK v l:=by
 obtain ⟨A,B,C,rfl,hA,hB,hC⟩:=h.s.split3 v
 rw [zpo hA hB hC,zrc hA hB hC]
 unfold zaK
 rw [XX,XX,X0.2 (fun x hx=>by have:=hA x hx; simp; omega),Xf.2 (fun x hx=>by simp [hB x hx]),X0.2 (fun x hx=>by have:=hC x hx; simp; omega)]
 simp
theorem zj6(l:List Plc)(v:Int):xv l v≤toN l v∧toN l v≤l.length:=by
 unfold toN
 have h1:xv l v≤l.length:=by unfold xv; exact (Yk _).length_le
 have h2:=(Yk (fun x:Plc=>x.b==v) (l:=l.drop (xv l v))).length_le
 rw [XD] at h2
 omega
theorem zBj{bk:Plc→Int}{N:List Adr}{l:List Plc}(h:TOk bk N l){v:Int}{i:Nat}(h1:xv l v≤i)(h2:i<toN l v)(hi:i<l.length):l[i].b=v:=by
 obtain ⟨A,B,C,rfl,hA,hB,hC⟩:=h.s.split3 v
 rw [zpo hA hB hC] at h2
 rw [zrc hA hB hC] at h1
 rw [Yb h1,Yc (by omega)]
 exact hB _ (W1 _)
theorem zD6{bk:Plc→Int}{N:List Adr}{l:List Plc}(h:TOk bk N l){i:Nat}(hi:i<l.length):zaK l[i].b (xU l i)≤7:=by
 have key:∀ v,l[i].b=v→zaK v l=zaK v (xU l i)+1:=by
  intro v hv
  have e:l=l.take i++(l[i]::l.drop (i+1)):=by rw [← WP hi,X7]
  refine (congrArg (zaK v) e).trans ?_
  unfold zaK xU
  rw [XX,XX,List.filter_cons,if_pos (by simp [hv])]
  simp
  omega
 have hc:=h.c l[i].b
 have:=key _ rfl
 omega
def zcf(e:Plc):Int × Int × Int × Int:=(e.b,e.a.h,e.a.p,e.s)
theorem zsD{α β:Type}(f:α→α)(g:α→β)(h:∀ x,g (f x)=g x):∀ (l:List α) (i:Nat),(l.modify i f).map g=l.map g
 | [],i=>by cases i <;> rfl
 | x::l,0=>by simp [List.modify,h]
 | x::l,i+1=>by simpa using zsD f g h l i
theorem zrL(l:List Plc)(i:Nat)(t:Int):(zsi l i t).map zcf=l.map zcf:=zsD (zGQ t) zcf (fun _=>rfl) l i
theorem zAX{x y x' y':Plc}(hx:zcf x=zcf x')(hy:zcf y=zcf y'):yz x.a y.a=yz x'.a y'.a:=by
 simp only [zcf,QL] at hx hy
 simp only [yz,hx.2.1,hx.2.2.1,hy.2.1,hy.2.2.1]
theorem zw4{l l':List Plc}(hk:l'.map zcf=l.map zcf){x:Plc}(hx:x∈l'):∃ y∈l,zcf y=zcf x:=by
 have:=List.mem_map_of_mem (f:=zcf) hx
 rw [hk] at this
 obtain ⟨y,h1,h2⟩:=Xl.1 this
 exact ⟨y,h1,h2⟩
theorem TOk.key{bk:Plc→Int}(hbk:∀ x y,zcf x=zcf y→bk x=bk y){l l':List Plc}(h:TOk bk [] l)(hk:l'.map zcf=l.map zcf):TOk bk [] l':=by
 refine ⟨fun e he=>?_,?_,fun v=>?_,?_,by simp⟩
 ·obtain ⟨y,h1,h2⟩:=zw4 hk he
  have:=h.b y h1
  rw [← hbk y e h2,← this]
  simp only [zcf,QL] at h2
  exact h2.1.symm
 ·have h1:(l.map zcf).Pairwise (fun x y=>x.1≤y.1):=X6.2 h.s
  rw [← hk] at h1
  have h2:l'.Pairwise (fun x y=>(zcf x).1≤(zcf y).1):=(X6 (f:=zcf) (R:=fun x y=>x.1≤y.1)).1 h1
  exact h2
 ·have e:∀ m:List Plc,zaK v m=((m.map zcf).filter (fun x=>x.1==v)).length:=by
   intro m
   unfold zaK
   rw [List.filter_map,List.length_map]
   rfl
  rw [e,hk,← e]; exact h.c v
 ·have h1:(l.map zcf).Pairwise (fun x y=>(x.2.1==y.2.1&&x.2.2.1==y.2.2.1)=false):=X6.2 h.n
  rw [← hk] at h1
  have h2:l'.Pairwise (fun x y=>((zcf x).2.1==(zcf y).2.1&&(zcf x).2.2.1==(zcf y).2.2.1)=false):=X6.1 h1
  exact h2
theorem zHH(s:List Int)(x y:Plc)(h:zcf x=zcf y):hbf s x=hbf s y:=by
 simp only [zcf,QL] at h
 simp only [hbf,hbk,grp,h.2.1,h.2.2.2]
theorem zHE(s:List Int)(x y:Plc)(h:zcf x=zcf y):tbf s x=tbf s y:=by
 simp only [zcf,QL] at h
 simp only [tbf,tbk,grp,h.2.1,h.2.2.1]
structure SndB (b:Bk):Prop where
 h:TOk (hbf b.salt) [] b.H
 t:TOk (tbf b.salt) [] b.T
 d:∀ x∈b.H,∀ y∈b.T,yz y.a x.a=false
theorem zFW(l:List Plc):∀ (n:Nat) (l:List Plc),(∀ e∈l,0≤e.b∧e.b<n)→(∀ v,zaK v l≤8)→l.length≤8*n
 | 0,l,h,_=>by
  cases l with
  | nil=>simp
  | cons x l=>have:=h x (by simp); omega
 | n+1,l,h,hc=>by
  have ih:=zFW l n (l.filter (fun e=>!(e.b==(n:Int)))) (fun e he=>by
   have h1:=QY.1 he
   have h2:=h e h1.1
   have h3:¬ e.b=n:=by simpa using h1.2
   omega) (fun v=>QD (zlI X9 v) (hc v))
  have h1:=hc n
  have h2:l.length=(l.filter (fun e=>e.b==(n:Int))).length+(l.filter (fun e=>!(e.b==(n:Int)))).length:=by
   clear ih hc h h1
   induction l with
   | nil=>rfl
   | cons x l ih=>by_cases hx:x.b=n <;> simp [hx] <;> omega
  unfold zaK at h1
  omega
theorem TOk.len{bk:Plc→Int}{N:List Adr}{l:List Plc}(h:TOk bk N l)(hb:∀ e,0≤bk e∧bk e<64):l.length≤512:=
 zFW l 64 l (fun e he=>by have:=hb e; rw [h.b e he]; exact this) h.c
theorem SndB.lenH{b:Bk}(h:SndB b):b.H.length≤512:=h.h.len (zBf _)
theorem SndB.lenT{b:Bk}(h:SndB b):b.T.length≤512:=h.t.len (zBD _)
theorem zeV(b:Bk):zg8 b=true↔SndB b:=by
 unfold zg8
 rw [zrd,zrd]
 simp only [Wg,decide_eq_true_eq,zAi _ _ _ _ (TOk.nil _ _),XB,QN,Q8,X5,Ye]
 constructor
 ·rintro ⟨⟨_,h1⟩,⟨_,h2⟩,h3⟩
  exact ⟨h1,h2,h3⟩
 ·intro h
  exact ⟨⟨h.lenH,h.h⟩,⟨h.lenT,h.t⟩,h.d⟩
theorem zA4{l:List Plc}{a:Adr}(h:¬ zbZ (fun x=>yz x.a a) l 0≥0):∀ x∈l,yz x.a a=false:=by
 rcases znu (fun x:Plc=>yz x.a a) l 0 with ⟨h1,h2⟩ | ⟨j,hj,h1,h2,h3⟩
 ·exact h2
 ·omega
theorem ziy(l:List Plc)(a z:Nat):∀ (n i m:Nat),a≤i→i+n≤z→a≤m→m<z→a≤zcs l n i m∧zcs l n i m<z
 | 0,i,m,_,_,h1,h2=>⟨h1,h2⟩
 | n+1,i,m,h0,h,h1,h2=>by
  rw [zcs]
  split
  ·exact ziy l a z n (i+1) i (by omega) (by omega) (by omega) (by omega)
  ·exact ziy l a z n (i+1) m (by omega) (by omega) h1 h2
theorem zsK{b:Bk}(h:SndB b)(a:Adr)(src:Int):SndB (zec b a src).1:=by
 unfold zec
 split
 ·refine ⟨h.h,h.t.key (zHE _) (zrL _ _ _),fun x hx y hy=>?_⟩
  obtain ⟨z,h1,h2⟩:=zw4 (zrL _ _ _) hy
  rw [← zAX h2 (rfl:zcf x=zcf x)]
  exact h.d x hx z h1
 ·rename_i hT
  split
  ·refine ⟨h.h.key (zHH _) (zrL _ _ _),h.t,fun x hx y hy=>?_⟩
   obtain ⟨z,h1,h2⟩:=zw4 (zrL _ _ _) hx
   rw [← zAX (rfl:zcf y=zcf y) h2]
   exact h.d z h1 y hy
  ·rename_i hH
   have nT:=zA4 hT
   have nH:=zA4 hH
   have dd:∀ (l':List Plc),l'.Sublist b.H→∀ x∈zgt l' ⟨hbk b.salt a src,a,src⟩,∀ y∈b.T,yz y.a x.a=false:=by
    intro l' hl' x hx y hy
    rcases zrs hx with rfl | hx
    ·exact nT y hy
    ·exact h.d x (hl'.subset hx) y hy
   split
   ·rename_i h8
    split
    ·exact h
    ·have hr:=zj6 b.H (hbk b.salt a src)
     have hm:=ziy b.H (xv b.H (hbk b.salt a src)) (toN b.H (hbk b.salt a src)) (toN b.H (hbk b.salt a src)-xv b.H (hbk b.salt a src)) (xv b.H (hbk b.salt a src)) (xv b.H (hbk b.salt a src)) (Wq _) (by omega) (Wq _) (by omega)
     generalize zcs b.H (toN b.H (hbk b.salt a src)-xv b.H (hbk b.salt a src)) (xv b.H (hbk b.salt a src)) (xv b.H (hbk b.salt a src))=m at hm ⊢
     have hml:m<b.H.length:=by omega
     have hc:=zD6 h.h hml
     rw [zBj h.h hm.1 hm.2 hml] at hc
     exact ⟨(h.h.sub (zdl _ _)).ins rfl hc (fun x hx=>nH x ((zdl _ _).subset hx)) (by simp),h.t,dd _ (zdl _ _)⟩
   ·rename_i h8
    rw [zDb h.h] at h8
    exact ⟨h.h.ins rfl (by show zaK (hbk b.salt a src) b.H≤7; omega) nH (by simp),h.t,dd _ (List.Sublist.refl _)⟩
theorem zBn{l:List Plc}(h:l.Pairwise (fun x y=>yz x.a y.a=false)){i:Nat}(hi:i<l.length):∀ x∈xU l i,yz x.a l[i].a=false:=by
 intro x hx
 have hp:=X4.1 h
 unfold xU at hx
 rcases QC.1 hx with hx | hx
 ·obtain ⟨j,hj,rfl⟩:=XW.1 hx
  exact hp j i (by omega) hi (by omega)
 ·obtain ⟨j,hj,rfl⟩:=List.mem_drop_iff_getElem.1 hx
  rw [zfU]
  exact hp i (i+1+j) hi (by omega) (by omega)
theorem zIV(v:Int)(a:Adr)(s:Int):(⟨v,a,s⟩:Plc).b=v:=rfl
theorem zIN(v:Int)(a:Adr)(s:Int):(⟨v,a,s⟩:Plc).a=a:=rfl
theorem zsn(b:Bk)(e:Plc):(zeA b e).b=tbk b.salt e.a:=by unfold zeA; exact zIV _ _ _
theorem zpF(b:Bk)(e:Plc):(zeA b e).a=e.a:=by unfold zeA; exact zIN _ _ _
theorem zDL(s:List Int)(e:Plc):tbf s e=tbk s e.a:=by unfold tbf; rfl
theorem zBB{b:Bk}(h:SndB b){i:Nat}(hi:i<b.H.length):SndB (zpU b i b.H[i]):=by
 have hH:=h.h.sub (zdl b.H i)
 have hn:=zBn h.h.n hi
 have hd:∀ y∈b.T,yz y.a b.H[i].a=false:=fun y hy=>h.d _ (W1 hi) y hy
 have dd:∀ (l':List Plc),l'.Sublist b.T→∀ x∈xU b.H i,∀ y∈zgt l' (zeA b b.H[i]),yz y.a x.a=false:=by
  intro l' hl' x hx y hy
  rcases zrs hy with rfl | hy
  ·rw [zfU,zpF]; exact hn x hx
  ·exact h.d x ((zdl _ _).subset hx) y (hl'.subset hy)
 have hp:(zeA b b.H[i]).b=tbk b.salt b.H[i].a:=zsn _ _
 have hq:(zeA b b.H[i]).b=tbf b.salt (zeA b b.H[i]):=by rw [hp,zDL,zpF]
 unfold zpU
 split
 ·rename_i h8
  have hr:=zj6 b.T (tbk b.salt b.H[i].a)
  have hl:xv b.T (tbk b.salt b.H[i].a)<b.T.length:=by omega
  rw [Wb hl]
  simp only
  refine zsK ⟨hH,?_,dd _ (zdl _ _)⟩ _ _
  have hc:=zD6 h.t hl
  rw [zBj h.t (Wq _) (by omega) hl] at hc
  rw [← hp] at hc
  exact (h.t.sub (zdl _ _)).ins hq hc (fun x hx=>by rw [zpF]; exact hd x ((zdl _ _).subset hx)) (by simp)
 ·rename_i h8
  rw [zDb h.t,← hp] at h8
  exact ⟨hH,h.t.ins hq (by omega) (fun x hx=>by rw [zpF]; exact hd x hx) (by simp),dd _ (List.Sublist.refl _)⟩
def NnB(b:Bk):Prop:=(∀ e∈b.H,0≤e.a.h)∧∀ e∈b.T,0≤e.a.h
theorem zDK{l:List Plc}(h:∀ e∈l,0≤e.a.h)(i:Nat)(t:Int):∀ e∈zsi l i t,0≤e.a.h:=by
 intro e he
 obtain ⟨y,h1,h2⟩:=zw4 (zrL _ _ _) he
 simp only [zcf,QL] at h2
 rw [← h2.2.1]; exact h y h1
theorem zzJ{l:List Plc}(h:∀ e∈l,0≤e.a.h){p:Plc}(hp:0≤p.a.h):∀ e∈zgt l p,0≤e.a.h:=by
 intro e he
 rcases zrs he with rfl | he
 ·exact hp
 ·exact h e he
theorem zzX{l:List Plc}(h:∀ e∈l,0≤e.a.h)(i:Nat):∀ e∈xU l i,0≤e.a.h:=fun e he=>h e ((zdl _ _).subset he)
theorem zCl{b:Bk}(h:NnB b){a:Adr}(ha:0≤a.h)(src:Int):NnB (zec b a src).1:=by
 unfold zec
 split
 ·exact ⟨h.1,zDK h.2 _ _⟩
 ·split
  ·exact ⟨zDK h.1 _ _,h.2⟩
  ·split
   ·split
    ·exact h
    ·exact ⟨zzJ (zzX h.1 _) ha,h.2⟩
   ·exact ⟨zzJ h.1 ha,h.2⟩
theorem zGM{b:Bk}(h:NnB b){i:Nat}(hi:i<b.H.length):NnB (zpU b i b.H[i]):=by
 have hp:0≤(zeA b b.H[i]).a.h:=by rw [zpF]; exact h.1 _ (W1 hi)
 unfold zpU
 split
 ·split
  ·rename_i o ho
   exact zCl ⟨zzX h.1 _,zzJ (zzX h.2 _) hp⟩ (h.2 o (List.mem_of_getElem? ho)) _
  ·exact h
 ·exact ⟨zzX h.1 _,zzJ h.2 hp⟩
end
section
set_option maxRecDepth 100000
variable {β:Type}
def zt(l:List Plc):List V:=(xG l).flatten
theorem ztW(l:List Plc):∀ e∈xG l,e.length=5:=by
 intro e he
 obtain ⟨x,_,rfl⟩:=Xl.1 he
 rfl
theorem za0(l:List Plc):(zt l).length=l.length*5:=by
 unfold zt; rw [zac (ztW l),yP]
theorem znq(l m:List Plc):zt (l++m)=zt l++zt m:=by simp [zt,xG]
theorem zx8{l:List Plc}{i:Nat}(hi:i<l.length):zt l=zt (l.take i)++(l[i].v++zt (l.drop (i+1))):=by
 have e:l=l.take i++(l[i]::l.drop (i+1)):=by rw [← WP hi,X7]
 refine (congrArg zt e).trans ?_
 rw [znq]
 rfl
theorem zut{l:List Plc}{i j:Nat}(hi:i<l.length)(hj:j≤5):(zt l).drop (i*5+j)=l[i].v.drop j++zt (l.drop (i+1)):=by
 rw [zx8 hi]
 have e:(zt (l.take i)).length=i*5:=by rw [za0,Ww]; congr 1; omega
 rw [Yf,e,WI (by omega),XB,show i*5+j-i*5=j by omega,Xv (by show j≤5; exact hj)]
theorem zwg{l:List Plc}{i j:Nat}(hi:i<l.length)(hj:j<5):(zt l)[i*5+j]?=l[i].v[j]?:=by
 have:=zut hi (Nat.le_of_lt hj)
 rw [← Yl,this,← Yl]
 rw [List.head?_append]
 cases h:(l[i].v.drop j).head? with
 | some x=>rfl
 | none=>
  rw [Yl,List.getElem?_eq_none_iff] at h
  have:l[i].v.length=5:=rfl
  omega
theorem zyH{l:List Plc}{i:Nat}(hi:i<l.length):XI 3 (XJ (i*5+1) (zt l))=l[i].a.v:=by
 rw [zut hi (by omega)]; rfl
theorem zDm{l:List Plc}{i:Nat}(hi:i<l.length):XI 5 (XJ (i*5) (zt l))=l[i].v:=by
 rw [show i*5=i*5+0 from rfl,zut hi (by omega)]; rfl
theorem zGe(A B x:List V)(j:Nat):xg (A++B) (A.length+j) x=A++xg B j x:=by
 unfold xg
 rw [List.take_length_add_append,Nat.add_assoc,List.drop_length_add_append]
 simp
theorem zsX{l:List Plc}{i:Nat}(hi:i<l.length)(t:Int):xg (zt l) (i*5+3) [V.sc (.int .u32 (zAS l[i].a.t t))]=zt (zsi l i t):=by
 have e:(zt (l.take i)).length=i*5:=by rw [za0,Ww]; congr 1; omega
 have eb:zsi l i t=l.take i++(zGQ t l[i]::l.drop (i+1)):=by
  unfold zsi
  rw [List.modify_eq_take_cons_drop hi]
 rw [eb,znq,zx8 hi,← e,zGe]
 rfl
theorem zel(l:List Plc):xh 5 l.length (zt l)=xG l:=by
 have:=zwZ (ztW l) (w:=l.length) (by rw [yP]; exact Wq _)
 unfold zt
 rw [this,Xu (by rw [yP]; exact Wq _)]
theorem zyC(l:List Plc)(i:Nat)(t:Int):(zsi l i t).length=l.length:=by unfold zsi; simp
theorem zr1{n:Nat}{l:List Plc}(h:n=l.length):xh 5 n (zt l)=xG l:=by subst h; exact zel l
theorem zGl(L:Nat)(l:List Plc)(hl:l.length≤1000000)(v:Int)(kx:List (List V)→Int→Int→Option β):∀ (m i:Nat),i≤l.length→l.length-i<m →
  zdR L kx m (xG l) v (i:Int)=kx (xG l) v ((i+((l.drop i).takeWhile (fun x=>decide (x.b<v))).length:Nat):Int):=by
 intro m
 induction m with
 | zero=>intro i h1 h2; omega
 | succ m IH=>
  intro i h1 h2
  unfold zdR ziD
  rw [yP]
  by_cases h:i<l.length
  ·rw [zap (by omega),zcc (zcg h),zE (n:=l[i].b) rfl,zag,WP h,XV]
   by_cases hb:l[i].b<v
   ·rw [if_pos hb,if_pos (decide_eq_true hb),ym,yT (by omega),XY]
    refine (IH (i+1) (by omega) (by omega)).trans ?_
    congr 2; omega
   ·rw [if_neg hb,if_neg (by simpa using hb)]; rfl
  ·rw [zaD (by omega),WI (by omega)]; rfl
theorem zH2(L:Nat)(l:List Plc)(hl:l.length≤1000000)(v f:Int)(kx:Int→Int→Option β):∀ (m i:Nat),i≤l.length→l.length-i<m →
  zdf L kx m (xG l) v f (i:Int)=kx f ((i+((l.drop i).takeWhile (fun x=>x.b==v)).length:Nat):Int):=by
 intro m
 induction m with
 | zero=>intro i h1 h2; omega
 | succ m IH=>
  intro i h1 h2
  unfold zdf zgT
  rw [yP]
  by_cases h:i<l.length
  ·rw [zap (by omega),zcc (zcg h),zE (n:=l[i].b) rfl,zda,WP h,XV]
   by_cases hb:l[i].b=v
   ·rw [if_pos hb,if_pos (beq_iff_eq.2 hb),ym,yT (by omega),XY]
    refine (IH (i+1) (by omega) (by omega)).trans ?_
    congr 2; omega
   ·rw [if_neg hb,if_neg (by simpa using hb)]; rfl
  ·rw [zaD (by omega),WI (by omega)]; rfl
theorem zCF(L:Nat)(l:List Plc)(hl:l.length≤1000000)(hL:l.length<L)(v:Int)(k:Int→Int→Option β):zT β L (xG l) v k=k ((xv l v:Nat):Int) ((toN l v:Nat):Int):=by
 have hf:=zj6 l v
 unfold zT zia zme
 rw [show ((0:Int))=((0:Nat):Int) from rfl]
 refine (zGl L l hl v _ L 0 (by omega) (by omega)).trans ?_
 rw [X3,WB]
 refine (zH2 L l hl v _ _ L (xv l v) (by omega) (by omega)).trans ?_
 rfl
theorem cBk{l:List Plc}{j:Nat}(h:j<l.length)(k:Int→Option β):cI .i64 (zt l) (0+XH (j:Int)*5+0) k=k l[j].b:=by
 rw [show 0+XH (j:Int)*5+0=j*5+0 by rw [XT]; omega]
 refine zE ?_ k
 rw [zwg h (by omega)]; rfl
theorem zGx(L:Nat)(l:List Plc)(hl:l.length≤1000000)(v:Int)(kx:Nat→Int→Int→List V→Option β):∀ (m i:Nat),i≤l.length→l.length-i<m →
  ze7 L kx m l.length v (i:Int) (zt l)=kx l.length v ((i+((l.drop i).takeWhile (fun x=>decide (x.b<v))).length:Nat):Int) (zt l):=by
 intro m
 induction m with
 | zero=>intro i h1 h2; omega
 | succ m IH=>
  intro i h1 h2
  unfold ze7 zkH
  by_cases h:i<l.length
  ·rw [zap (by omega),yb (by omega),cBk h,zag,WP h,XV]
   by_cases hb:l[i].b<v
   ·rw [if_pos hb,if_pos (decide_eq_true hb),ym,yT (by omega),XY]
    refine (IH (i+1) (by omega) (by omega)).trans ?_
    congr 2; omega
   ·rw [if_neg hb,if_neg (by simpa using hb)]; rfl
  ·rw [zaD (by omega),WI (by omega)]; rfl
theorem zIJ(L:Nat)(l:List Plc)(hl:l.length≤1000000)(v f:Int)(kx:Int→Int→List V→Option β):∀ (m i:Nat),i≤l.length→l.length-i<m →
  zed L kx m l.length v f (i:Int) (zt l)=kx f ((i+((l.drop i).takeWhile (fun x=>x.b==v)).length:Nat):Int) (zt l):=by
 intro m
 induction m with
 | zero=>intro i h1 h2; omega
 | succ m IH=>
  intro i h1 h2
  unfold zed zjr
  by_cases h:i<l.length
  ·rw [zap (by omega),yb (by omega),cBk h,zda,WP h,XV]
   by_cases hb:l[i].b=v
   ·rw [if_pos hb,if_pos (beq_iff_eq.2 hb),ym,yT (by omega),XY]
    refine (IH (i+1) (by omega) (by omega)).trans ?_
    congr 2; omega
   ·rw [if_neg hb,if_neg (by simpa using hb)]; rfl
  ·rw [zaD (by omega),WI (by omega)]; rfl
theorem zA8(L:Nat)(l:List Plc)(hl:l.length≤1000000)(hL:l.length<L)(v:Int)(k:Int→Int→List V→Option β):yk β L l.length v (zt l) k=k ((xv l v:Nat):Int) ((toN l v:Nat):Int) (zt l):=by
 have hf:=zj6 l v
 unfold yk zlB zpE
 rw [show ((0:Int))=((0:Nat):Int) from rfl]
 refine (zGx L l hl v _ L 0 (by omega) (by omega)).trans ?_
 rw [X3,WB]
 refine (zIJ L l hl v _ _ L (xv l v) (by omega) (by omega)).trans ?_
 rfl
theorem zs1{n m:Nat}(h:n≤1000000)(hm:m≤1000000):(n+m)*24≤xw∧n+m≤xw:=by
 simp only [xw]; omega
theorem zsY(l:List Plc)(i:Nat):(xG l).take i=xG (l.take i):=by simp [xG,List.map_take]
theorem zAZ(l:List Plc)(i:Nat):(xG l).drop i=xG (l.drop i):=by simp [xG,List.map_drop]
theorem zHM(p:Plc):xh 5 1 (xg [(Qe (0:Int)),(Qc (0:Int)),(Qb (0:Int)),(Qc (0:Int)),(Qc (0:Int))] 0 p.v)=xG [p]:=by
 rw [znc (by rfl)]; rfl
theorem zGn(l:List Plc)(i:Nat):XI (l.length-i) (XJ i l)=XJ i l:=Xu (by simp)
theorem zsZ(L:Nat)(l:List Plc)(hl:l.length≤900000)(hL:l.length<L)(p:Plc)(k:List (List V)→Option β):yj β L (xG l) p.v k=k (xG (zgt l p)):=by
 have hf:=zj6 l p.b
 have e1:XI 5 p.v=p.v:=rfl
 unfold yj zpi
 rw [zE (n:=p.b) rfl,zCF L l (by omega) hL,yP,yb (by omega),Yg,XT,X3,zsY,yP,yb (zs1 (by simp) (by simp; omega)),ym,XB,yb (by show 0+5≤5; omega),e1,yb ⟨rfl,by omega⟩,zHM,yP,yP,yb (zs1 (by simp; omega) (by simp)),ym,zyw,yb (by omega),zAZ,zsY,yP,yP,yb (zs1 (by simp; omega) (by simp; omega)),ym,zyw,zGn]
 rfl
theorem zHu{n:Nat}{l:List Plc}(h:n≤l.length):xh 5 n (zt l)=xG (l.take n):=by
 unfold zt
 rw [zwZ (ztW l) (w:=n) (by rw [yP]; exact h),zsY]
theorem zDv{i:Nat}{l:List Plc}(h:i≤l.length):XJ (i*5) (zt l)=zt (l.drop i):=by
 have e:zt l=zt (l.take i)++zt (l.drop i):=by rw [← znq,X7]
 have e':(zt (l.take i)).length=i*5:=by rw [za0,Ww]; congr 1; omega
 rw [e,Xv (by omega),WI (by omega),XB]
theorem zHX{i:Nat}{l:List Plc}(h:i≤l.length):xh 5 (l.length-i) (XJ (0+i*5) (zt l))=xG (l.drop i):=by
 rw [WB,zDv h]; exact zr1 (by simp)
theorem zCw(c:Bool)(a:Option β):ifb c a a=a:=by cases c <;> rfl
theorem zvV(L:Nat)(l:List Plc)(hl:l.length≤900000)(i:Nat)(hi:i<l.length)(k:List (List V)→List V→Option β):zk β L l.length (i:Int) (zt l) k=k (xG (xU l i)) (zt l):=by
 unfold zk zpg
 rw [yb (by omega),Yg,XT,zHu (by omega),yP,yb (zs1 (by simp) (by simp; omega)),ym,XB,ym,yT (by omega),yb (by omega),XT,zHX (by omega),yP,yP,yb (zs1 (by simp; omega) (by simp; omega)),ym,zyw]
 rfl
theorem zFj(L:Nat)(ps:List Plc)(hp:ps.length≤1000000)(a:Adr)(kr:Int→List V→Option β)(kx:List V→Option β)(k:Int→List V→Option β)(hr:∀ i b,kr i b=k i b)(hx:∀ b,kx b=k (-1) b):∀ (m i:Nat),i≤ps.length→ps.length-i<m →
  zeE zg L kr kx m ps.length (i:Int) (zt ps) a.v=k (zbZ (fun e=>yz e.a a) (ps.drop i) i) (zt ps):=by
 intro m
 induction m with
 | zero=>intro i h1 h2; omega
 | succ m IH=>
  intro i h1 h2
  unfold zeE zj3
  by_cases h:i<ps.length
  ·have e1:0+XH (i:Int)*5+1=i*5+1:=by rw [XT]; omega
   rw [zap (by omega),yb (by omega),e1,yb (by rw [za0]; omega),yb (by show 0+3≤3; omega),zyH h,zcr,zD9,WP h,zbZ,ym,yT (by omega)]
   have ih:=IH (i+1) (by omega) (by omega)
   cases yz ps[i].a a with
   | true=>exact hr _ _
   | false=>exact ih
  ·rw [zaD (by omega),WI (by omega),hx]; rfl
theorem zCK(L:Nat)(ps:List Plc)(hp:ps.length≤1000000)(hL:ps.length<L)(a:Adr)(k:Int→List V→Option β):xm β L ps.length a.v (zt ps) k=k (zbZ (fun e=>yz e.a a) ps 0) (zt ps):=by
 unfold xm zkd znS
 rw [show ((0:Int))=((0:Nat):Int) from rfl]
 refine (zFj L ps hp a _ _ k (fun _ _=>rfl) (fun _=>rfl) L 0 (by omega) (by omega)).trans ?_
 rfl
theorem yh(b:Bk)(j:Nat)(h:j<32)(k:Int→Option β):cI .u8 b.v j k=k (b.salt.getD j 0):=by
 refine zE ?_ k
 have hs:=b.hs
 rw [Bk.v,Wv (by rw [zc7]; omega),row,List.getElem?_map,List.getD_eq_getElem?_getD,Wb (by omega)]
 rfl
theorem zGC:∀ (s:List Int),s.length=32→row .u8 s=[V.sc (.int .u8 (s.getD 0 0)),V.sc (.int .u8 (s.getD 1 0)),V.sc (.int .u8 (s.getD 2 0)),V.sc (.int .u8 (s.getD 3 0)),V.sc (.int .u8 (s.getD 4 0)),V.sc (.int .u8 (s.getD 5 0)),V.sc (.int .u8 (s.getD 6 0)),V.sc (.int .u8 (s.getD 7 0)),V.sc (.int .u8 (s.getD 8 0)),V.sc (.int .u8 (s.getD 9 0)),V.sc (.int .u8 (s.getD 10 0)),V.sc (.int .u8 (s.getD 11 0)),V.sc (.int .u8 (s.getD 12 0)),V.sc (.int .u8 (s.getD 13 0)),V.sc (.int .u8 (s.getD 14 0)),V.sc (.int .u8 (s.getD 15 0)),V.sc (.int .u8 (s.getD 16 0)),V.sc (.int .u8 (s.getD 17 0)),V.sc (.int .u8 (s.getD 18 0)),V.sc (.int .u8 (s.getD 19 0)),V.sc (.int .u8 (s.getD 20 0)),V.sc (.int .u8 (s.getD 21 0)),V.sc (.int .u8 (s.getD 22 0)),V.sc (.int .u8 (s.getD 23 0)),V.sc (.int .u8 (s.getD 24 0)),V.sc (.int .u8 (s.getD 25 0)),V.sc (.int .u8 (s.getD 26 0)),V.sc (.int .u8 (s.getD 27 0)),V.sc (.int .u8 (s.getD 28 0)),V.sc (.int .u8 (s.getD 29 0)),V.sc (.int .u8 (s.getD 30 0)),V.sc (.int .u8 (s.getD 31 0))]
 | [x0,x1,x2,x3,x4,x5,x6,x7,x8,x9,x10,x11,x12,x13,x14,x15,x16,x17,x18,x19,x20,x21,x22,x23,x24,x25,x26,x27,x28,x29,x30,x31],_=>rfl
theorem Bk.cells(b:Bk):[V.sc (.int .u8 (b.salt.getD 0 0)),V.sc (.int .u8 (b.salt.getD 1 0)),V.sc (.int .u8 (b.salt.getD 2 0)),V.sc (.int .u8 (b.salt.getD 3 0)),V.sc (.int .u8 (b.salt.getD 4 0)),V.sc (.int .u8 (b.salt.getD 5 0)),V.sc (.int .u8 (b.salt.getD 6 0)),V.sc (.int .u8 (b.salt.getD 7 0)),V.sc (.int .u8 (b.salt.getD 8 0)),V.sc (.int .u8 (b.salt.getD 9 0)),V.sc (.int .u8 (b.salt.getD 10 0)),V.sc (.int .u8 (b.salt.getD 11 0)),V.sc (.int .u8 (b.salt.getD 12 0)),V.sc (.int .u8 (b.salt.getD 13 0)),V.sc (.int .u8 (b.salt.getD 14 0)),V.sc (.int .u8 (b.salt.getD 15 0)),V.sc (.int .u8 (b.salt.getD 16 0)),V.sc (.int .u8 (b.salt.getD 17 0)),V.sc (.int .u8 (b.salt.getD 18 0)),V.sc (.int .u8 (b.salt.getD 19 0)),V.sc (.int .u8 (b.salt.getD 20 0)),V.sc (.int .u8 (b.salt.getD 21 0)),V.sc (.int .u8 (b.salt.getD 22 0)),V.sc (.int .u8 (b.salt.getD 23 0)),V.sc (.int .u8 (b.salt.getD 24 0)),V.sc (.int .u8 (b.salt.getD 25 0)),V.sc (.int .u8 (b.salt.getD 26 0)),V.sc (.int .u8 (b.salt.getD 27 0)),V.sc (.int .u8 (b.salt.getD 28 0)),V.sc (.int .u8 (b.salt.getD 29 0)),V.sc (.int .u8 (b.salt.getD 30 0)),V.sc (.int .u8 (b.salt.getD 31 0))]=row .u8 b.salt:=(zGC b.salt b.hs).symm
theorem Bk.mk_v(b:Bk)(x y:List (List V)):[V.sc (.int .u8 (b.salt.getD 0 0)),V.sc (.int .u8 (b.salt.getD 1 0)),V.sc (.int .u8 (b.salt.getD 2 0)),V.sc (.int .u8 (b.salt.getD 3 0)),V.sc (.int .u8 (b.salt.getD 4 0)),V.sc (.int .u8 (b.salt.getD 5 0)),V.sc (.int .u8 (b.salt.getD 6 0)),V.sc (.int .u8 (b.salt.getD 7 0)),V.sc (.int .u8 (b.salt.getD 8 0)),V.sc (.int .u8 (b.salt.getD 9 0)),V.sc (.int .u8 (b.salt.getD 10 0)),V.sc (.int .u8 (b.salt.getD 11 0)),V.sc (.int .u8 (b.salt.getD 12 0)),V.sc (.int .u8 (b.salt.getD 13 0)),V.sc (.int .u8 (b.salt.getD 14 0)),V.sc (.int .u8 (b.salt.getD 15 0)),V.sc (.int .u8 (b.salt.getD 16 0)),V.sc (.int .u8 (b.salt.getD 17 0)),V.sc (.int .u8 (b.salt.getD 18 0)),V.sc (.int .u8 (b.salt.getD 19 0)),V.sc (.int .u8 (b.salt.getD 20 0)),V.sc (.int .u8 (b.salt.getD 21 0)),V.sc (.int .u8 (b.salt.getD 22 0)),V.sc (.int .u8 (b.salt.getD 23 0)),V.sc (.int .u8 (b.salt.getD 24 0)),V.sc (.int .u8 (b.salt.getD 25 0)),V.sc (.int .u8 (b.salt.getD 26 0)),V.sc (.int .u8 (b.salt.getD 27 0)),V.sc (.int .u8 (b.salt.getD 28 0)),V.sc (.int .u8 (b.salt.getD 29 0)),V.sc (.int .u8 (b.salt.getD 30 0)),V.sc (.int .u8 (b.salt.getD 31 0)),(V.sl 5 x),(V.sl 5 y)]=row .u8 b.salt++[.sl 5 x,.sl 5 y]:=by
 rw [← b.cells]; rfl
theorem zBp(L:Nat)(b:Bk)(hH:b.H.length≤1000000)(hT:b.T.length≤1000000)(k:zlV β):xk β L b.v k=k (b.salt.getD 0 0) (b.salt.getD 1 0) (b.salt.getD 2 0) (b.salt.getD 3 0) (b.salt.getD 4 0) (b.salt.getD 5 0) (b.salt.getD 6 0) (b.salt.getD 7 0) (b.salt.getD 8 0) (b.salt.getD 9 0) (b.salt.getD 10 0) (b.salt.getD 11 0) (b.salt.getD 12 0) (b.salt.getD 13 0) (b.salt.getD 14 0) (b.salt.getD 15 0) (b.salt.getD 16 0) (b.salt.getD 17 0) (b.salt.getD 18 0) (b.salt.getD 19 0) (b.salt.getD 20 0) (b.salt.getD 21 0) (b.salt.getD 22 0) (b.salt.getD 23 0) (b.salt.getD 24 0) (b.salt.getD 25 0) (b.salt.getD 26 0) (b.salt.getD 27 0) (b.salt.getD 28 0) (b.salt.getD 29 0) (b.salt.getD 30 0) (b.salt.getD 31 0) b.H.length b.T.length (zt b.H) (zt b.T):=by
 unfold xk zpn
 rw [yb b.len,yh b 0 (by omega),yh b 1 (by omega),yh b 2 (by omega),yh b 3 (by omega),yh b 4 (by omega),yh b 5 (by omega),yh b 6 (by omega),yh b 7 (by omega),yh b 8 (by omega),yh b 9 (by omega),yh b 10 (by omega),yh b 11 (by omega),yh b 12 (by omega),yh b 13 (by omega),yh b 14 (by omega),yh b 15 (by omega),yh b 16 (by omega),yh b 17 (by omega),yh b 18 (by omega),yh b 19 (by omega),yh b 20 (by omega),yh b 21 (by omega),yh b 22 (by omega),yh b 23 (by omega),yh b 24 (by omega),yh b 25 (by omega),yh b 26 (by omega),yh b 27 (by omega),yh b 28 (by omega),yh b 29 (by omega),yh b 30 (by omega),yh b 31 (by omega)]
 have g1:∀ k:List (List V)→Option β,cL 5 b.v 32 k=k (xG b.H):=znl b.g32
 have g2:∀ k:List (List V)→Option β,cL 5 b.v 33 k=k (xG b.T):=znl b.g33
 rw [g1,g2,yP,yP,yb (zs1 (by simp) hH),yb (zs1 (by simp) hT)]
 rfl
end
section
set_option maxRecDepth 100000
variable {β:Type}
theorem zpu{l:List Plc}{a:Adr}(h:zbZ (fun x=>yz x.a a) l 0≥0):∃ j:Nat,j<l.length∧zbZ (fun x=>yz x.a a) l 0=(j:Int):=by
 rcases znu (fun x:Plc=>yz x.a a) l 0 with ⟨h1,h2⟩ | ⟨j,hj,h1,h2,h3⟩
 ·omega
 ·exact ⟨j,hj,by rw [h1,WB]⟩
theorem at3(j:Nat):0+XH (j:Int)*5+1+2=j*5+3:=by rw [XT]; omega
theorem cT{l:List Plc}{j:Nat}(h:j<l.length)(k:Int→Option β):cI .u32 (zt l) (j*5+3) k=k l[j].a.t:=by
 refine zE ?_ k
 rw [zwg h (by omega)]; rfl
theorem zhl{l:List Plc}{j:Nat}(h:j<l.length):zuf l j=l[j].a.t:=by
 unfold zuf; rw [Wb h]
theorem zCY(v:Int)(a:Adr)(s:Int):xg [(Qe (0:Int)),(Qc (0:Int)),(Qb (0:Int)),(Qc (0:Int)),(Qc (0:Int))] 0 (xg (xg [(Qe v),(Qc (0:Int)),(Qb (0:Int)),(Qc (0:Int)),(Qc (0:Int))] 1 a.v) 4 [(Qc s)])=(⟨v,a,s⟩:Plc).v:=rfl
theorem zk9(p:Plc):XI 5 p.v=p.v:=rfl
theorem zES(L:Nat)(b:Bk)(hH:b.H.length≤1000000)(z:Nat)(hz:z≤b.H.length)(b4 p:List V)(tl:Nat)(tf:List V)(kx:zpz β):∀ (m i c:Nat),i≤z→z-i<m→c<b.H.length →
  zcD xk xm xc yk yj zk L kx m (z:Int) (c:Int) (i:Int) b4 0 0 0 0 0 0 0 0 0 0 0 0 0 0 0 0 0 0 0 0 0 0 0 0 0 0 0 0 0 0 0 0 [] [] (b.salt.getD 0 0) (b.salt.getD 1 0) (b.salt.getD 2 0) (b.salt.getD 3 0) (b.salt.getD 4 0) (b.salt.getD 5 0) (b.salt.getD 6 0) (b.salt.getD 7 0) (b.salt.getD 8 0) (b.salt.getD 9 0) (b.salt.getD 10 0) (b.salt.getD 11 0) (b.salt.getD 12 0) (b.salt.getD 13 0) (b.salt.getD 14 0) (b.salt.getD 15 0) (b.salt.getD 16 0) (b.salt.getD 17 0) (b.salt.getD 18 0) (b.salt.getD 19 0) (b.salt.getD 20 0) (b.salt.getD 21 0) (b.salt.getD 22 0) (b.salt.getD 23 0) (b.salt.getD 24 0) (b.salt.getD 25 0) (b.salt.getD 26 0) (b.salt.getD 27 0) (b.salt.getD 28 0) (b.salt.getD 29 0) (b.salt.getD 30 0) (b.salt.getD 31 0) b.H.length tl p (zt b.H) tf
   = kx ((zcs b.H (z-i) i c:Nat):Int) b4 0 0 0 0 0 0 0 0 0 0 0 0 0 0 0 0 0 0 0 0 0 0 0 0 0 0 0 0 0 0 0 0 [] [] (b.salt.getD 0 0) (b.salt.getD 1 0) (b.salt.getD 2 0) (b.salt.getD 3 0) (b.salt.getD 4 0) (b.salt.getD 5 0) (b.salt.getD 6 0) (b.salt.getD 7 0) (b.salt.getD 8 0) (b.salt.getD 9 0) (b.salt.getD 10 0) (b.salt.getD 11 0) (b.salt.getD 12 0) (b.salt.getD 13 0) (b.salt.getD 14 0) (b.salt.getD 15 0) (b.salt.getD 16 0) (b.salt.getD 17 0) (b.salt.getD 18 0) (b.salt.getD 19 0) (b.salt.getD 20 0) (b.salt.getD 21 0) (b.salt.getD 22 0) (b.salt.getD 23 0) (b.salt.getD 24 0) (b.salt.getD 25 0) (b.salt.getD 26 0) (b.salt.getD 27 0) (b.salt.getD 28 0) (b.salt.getD 29 0) (b.salt.getD 30 0) (b.salt.getD 31 0) b.H.length tl p (zt b.H) tf:=by
 intro m
 induction m with
 | zero=>intro i c h1 h2 h3; omega
 | succ m IH=>
  intro i c h1 h2 h3
  unfold zcD zf0
  by_cases h:i<z
  ·have hi:i<b.H.length:=by omega
   rw [zap (by omega),yb (by omega),at3,cT hi,yb (by omega),at3,cT h3,zag,show z-i=(z-(i+1))+1 by omega,zcs,zhl hi,zhl h3]
   by_cases ht:b.H[i].a.t<b.H[c].a.t
   ·rw [if_pos ht,if_pos ht,ym,yT (by omega)]
    exact IH (i+1) i (by omega) (by omega) hi
   ·rw [if_neg ht,if_neg ht,ym,yT (by omega)]
    exact IH (i+1) c (by omega) (by omega) h3
  ·rw [zaD (by omega),show z-i=0 by omega]; rfl
theorem Bk.v_mk(b:Bk)(H T:List Plc):row .u8 b.salt++[V.sl 5 (xG H),V.sl 5 (xG T)]=(⟨b.salt,H,T,b.hs⟩:Bk).v:=rfl
theorem zDO(L:Nat)(hL:200000<L)(b:Bk)(hH:b.H.length≤100000)(hT:b.T.length≤100000)(a:Adr)(src:Int)(k:List V→Bool→Option β):zM β (L+100) b.v a.v src k=k (zec b a src).1.v (zec b a src).2:=by
 unfold zM zoi zrx
 rw [yb (by rw [b.len]; omega),b.take,b.dem,zBp _ b (by omega) (by omega),yb (by show 0+3≤3; omega),zcr,zCK _ b.T (by omega) (by omega),yb rfl,zag]
 unfold zec
 by_cases h:zbZ (fun x=>yz x.a a) b.T 0≥0
 ·obtain ⟨j,hj,e⟩:=zpu h
  rw [if_pos h,if_pos h,e,yb (by omega),at3,cT hj,zE (n:=a.t) rfl,ym,yb (by omega),yb ⟨rfl,by rw [za0]; omega⟩,ym,zsX hj,zel,zr1 (zyC _ _ _).symm,b.mk_v,b.v_mk,XT]
 ·rw [if_neg h,if_neg h,yb (by show 0+3≤3; omega),zCK _ b.H (by omega) (by omega),yb rfl,zag]
  by_cases h':zbZ (fun x=>yz x.a a) b.H 0≥0
  ·obtain ⟨j,hj,e⟩:=zpu h'
   rw [if_pos h',if_pos h',e,yb (by omega),at3,cT hj,zE (n:=a.t) rfl,ym,yb (by omega),yb ⟨rfl,by rw [za0]; omega⟩,ym,zsX hj,zel,zr1 (zyC _ _ _).symm,b.mk_v,b.v_mk,XT]
  ·rw [if_neg h',if_neg h',yb (by rw [b.len]; omega),yb (by show 0+3≤3; omega),b.t32,zHk L b.salt b.hs]
   generalize hbk b.salt a src=v
   have hr:=zj6 b.H v
   rw [yb (by show 0+3≤3; omega),yb ⟨rfl,by omega⟩,yb (by show 1=1∧4+1≤5; omega),yb ⟨rfl,by omega⟩,zCY,ym,zE (n:=v) rfl]
   rw [zA8 _ b.H (by omega) (by omega),yb rfl,ym,zZ (by omega) (by omega),zag]
   by_cases h8:toN b.H v-xv b.H v≥8
   ·rw [if_pos (by omega),if_pos h8]
    refine (zES (L+100) b (by omega) (toN b.H v) hr.2 a.v _ _ _ _ (L+100) (xv b.H v) (xv b.H v) hr.1 (by omega) (by omega)).trans ?_
    have hm:=ziy b.H (xv b.H v) (toN b.H v) (toN b.H v-xv b.H v) (xv b.H v) (xv b.H v) (Wq _) (by omega) (Wq _) (by omega)
    generalize zcs b.H (toN b.H v-xv b.H v) (xv b.H v) (xv b.H v)=m at hm ⊢
    have hml:m<b.H.length:=by omega
    unfold zfd
    rw [yb (by omega),at3,cT hml,zE (n:=a.t) rfl,zag,zhl hml]
    by_cases ht:b.H[m].a.t≥a.t
    ·rw [if_pos ht,if_pos ht,zel,zel,b.mk_v,b.v_mk]
    ·have hlr:(xU b.H m).length≤b.H.length:=(zdl _ _).length_le
     rw [if_neg ht,if_neg ht,zvV _ b.H (by omega) m hml,yb rfl,yb (by show 0+5≤5; omega),zk9,zsZ _ (xU b.H m) (by omega) (by omega),zel,b.mk_v,b.v_mk]
   ·rw [if_neg (by omega),if_neg h8,yb (by show 0+5≤5; omega),zk9,zCw,zel,zsZ _ b.H (by omega) (by omega),zel,b.mk_v,b.v_mk]
end
section
set_option maxRecDepth 100000
variable {β:Type}
def bk0:Bk:=⟨We 32 0,[],[],by rfl⟩
theorem zEq:We 32 (Qa (0:Int))++[(V.sl 5 ([]:List (List V))),(V.sl 5 ([]:List (List V)))]=bk0.v:=rfl
theorem zFJ(b:Bk)(k:List V→Int→Option β):chk (XG b.v=34) (cI .u8 b.v 0 fun v0=>cI .u8 b.v 1 fun v1=>cI .u8 b.v 2 fun v2=>cI .u8 b.v 3 fun v3=>cI .u8 b.v 4 fun v4=>cI .u8 b.v 5 fun v5=>cI .u8 b.v 6 fun v6=>cI .u8 b.v 7 fun v7=>cI .u8 b.v 8 fun v8=>cI .u8 b.v 9 fun v9=>cI .u8 b.v 10 fun v10=>cI .u8 b.v 11 fun v11=>cI .u8 b.v 12 fun v12=>cI .u8 b.v 13 fun v13=>cI .u8 b.v 14 fun v14=>cI .u8 b.v 15 fun v15=>cI .u8 b.v 16 fun v16=>cI .u8 b.v 17 fun v17=>cI .u8 b.v 18 fun v18=>cI .u8 b.v 19 fun v19=>cI .u8 b.v 20 fun v20=>cI .u8 b.v 21 fun v21=>cI .u8 b.v 22 fun v22=>cI .u8 b.v 23 fun v23=>cI .u8 b.v 24 fun v24=>cI .u8 b.v 25 fun v25=>cI .u8 b.v 26 fun v26=>cI .u8 b.v 27 fun v27=>cI .u8 b.v 28 fun v28=>cI .u8 b.v 29 fun v29=>cI .u8 b.v 30 fun v30=>cI .u8 b.v 31 fun v31=>cL 5 b.v 32 fun v32=>cL 5 b.v 33 fun v33=>k [V.sc (.int .u8 v0),V.sc (.int .u8 v1),V.sc (.int .u8 v2),V.sc (.int .u8 v3),V.sc (.int .u8 v4),V.sc (.int .u8 v5),V.sc (.int .u8 v6),V.sc (.int .u8 v7),V.sc (.int .u8 v8),V.sc (.int .u8 v9),V.sc (.int .u8 v10),V.sc (.int .u8 v11),V.sc (.int .u8 v12),V.sc (.int .u8 v13),V.sc (.int .u8 v14),V.sc (.int .u8 v15),V.sc (.int .u8 v16),V.sc (.int .u8 v17),V.sc (.int .u8 v18),V.sc (.int .u8 v19),V.sc (.int .u8 v20),V.sc (.int .u8 v21),V.sc (.int .u8 v22),V.sc (.int .u8 v23),V.sc (.int .u8 v24),V.sc (.int .u8 v25),V.sc (.int .u8 v26),V.sc (.int .u8 v27),V.sc (.int .u8 v28),V.sc (.int .u8 v29),V.sc (.int .u8 v30),V.sc (.int .u8 v31),(V.sl 5 v32),(V.sl 5 v33)] (0:Int))=k b.v 0:=by
 rw [yb b.len,yh b 0 (by omega),yh b 1 (by omega),yh b 2 (by omega),yh b 3 (by omega),yh b 4 (by omega),yh b 5 (by omega),yh b 6 (by omega),yh b 7 (by omega),yh b 8 (by omega),yh b 9 (by omega),yh b 10 (by omega),yh b 11 (by omega),yh b 12 (by omega),yh b 13 (by omega),yh b 14 (by omega),yh b 15 (by omega),yh b 16 (by omega),yh b 17 (by omega),yh b 18 (by omega),yh b 19 (by omega),yh b 20 (by omega),yh b 21 (by omega),yh b 22 (by omega),yh b 23 (by omega),yh b 24 (by omega),yh b 25 (by omega),yh b 26 (by omega),yh b 27 (by omega),yh b 28 (by omega),yh b 29 (by omega),yh b 30 (by omega),yh b 31 (by omega)]
 have g1:∀ k:List (List V)→Option β,cL 5 b.v 32 k=k (xG b.H):=znl b.g32
 have g2:∀ k:List (List V)→Option β,cL 5 b.v 33 k=k (xG b.T):=znl b.g33
 rw [g1,g2,b.mk_v,b.v_mk]
theorem zI8(e:Plc)(v:Int):xg e.v 0 [V.sc (.int .i64 v)]=(⟨v,e.a,e.s⟩:Plc).v:=rfl
theorem zIr(b:Bk)(e:Plc):xg e.v 0 [V.sc (.int .i64 (tbk b.salt e.a))]=(zeA b e).v:=by
 unfold zeA
 exact zI8 e _
theorem z3(a:Adr):xg [(Qc (0:Int)),(Qb (0:Int)),(Qc (0:Int))] 0 a.v=a.v:=znc rfl
theorem z5(p:Plc):xg [(Qe (0:Int)),(Qc (0:Int)),(Qb (0:Int)),(Qc (0:Int)),(Qc (0:Int))] 0 p.v=p.v:=znc rfl
theorem at0(j:Nat):0+XH (j:Int)*5=j*5:=by rw [XT]; omega
theorem p13(p:Plc):XI 3 (XJ 1 p.v)=p.a.v:=rfl
theorem cB0(p:Plc)(k:Int→Option β):cI .i64 p.v 0 k=k p.b:=zE rfl k
theorem zHQ(L:Nat)(hL:200000<L)(b:Bk)(hS:SndB b)(a:Adr)(j:Nat)(hj:j<b.H.length)(hf:zbZ (fun x=>yz x.a a) b.H 0=(j:Int))(k:List V→Int→Option β):zy β (L+100) b.v a.v k=k (zpU b j b.H[j]).v 0:=by
 have hH:=hS.lenH
 have hT:=hS.lenT
 have hrl:(xU b.H j).length≤b.H.length:=(zdl _ _).length_le
 have hne:b.H.isEmpty=false:=by
  cases he:b.H with
  | nil=>rw [he] at hj; simp at hj
  | cons x l=>rfl
 unfold zy zrA
 rw [yb (by rw [b.len]; omega),b.take,b.dem,zF0 _ b (by omega) (by omega) (by omega),(zeV b).2 hS,Xg,ze6,zcy b.g32,yb (by show 0+3≤3; omega),zcr,zAw _ b.H (by omega) (by omega),hf,zag,if_neg (by omega),yb (by rw [b.len]; omega),zBp _ b (by omega) (by omega),yb (by omega),at0,yb (by rw [za0]; omega),zDm hj,yb ⟨rfl,by omega⟩,z5,ym,zvV _ b.H (by omega) j hj,yb rfl,yb (by rw [b.len]; omega),yb (by show 1+3≤5; omega),b.t32,p13,zFh L b.salt b.hs,yb (by show 1=1∧0+1≤5; omega),ym,zIr,cB0,zsn]
 unfold zpU
 have hb:(zeA b b.H[j]).b=tbk b.salt b.H[j].a:=zsn _ _
 generalize zeA b b.H[j]=p at hb ⊢
 generalize tbk b.salt b.H[j].a=v at hb ⊢
 have hr:=zj6 b.T v
 rw [zA8 _ b.T (by omega) (by omega),yb rfl,ym,zZ (by omega) (by omega),zag]
 by_cases h8:toN b.T v-xv b.T v≥8
 ·have hl:xv b.T v<b.T.length:=by omega
  have hrt:(xU b.T (xv b.T v)).length≤b.T.length:=(zdl _ _).length_le
  have hil:(zgt (xU b.T (xv b.T v)) p).length≤b.T.length+1:=by
   unfold zgt
   simp only [Wm,Ww,XD,List.length_singleton]
   omega
  rw [if_pos (by omega),if_pos h8,yb (by omega),at0,yb (by rw [za0]; omega),zyH hl,yb ⟨rfl,by omega⟩,z3,ym,zvV _ b.T (by omega) _ hl,yb rfl,yb (by show 0+5≤5; omega),zk9,zsZ _ (xU b.T (xv b.T v)) (by omega) (by omega),zag,if_pos (by omega),yb (by show 0+3≤3; omega),yb (by show 0+3≤3; omega),zcr,zyF,b.mk_v,b.v_mk,zDO L hL _ (by show (xU b.H j).length≤100000; omega) (by show (zgt (xU b.T (xv b.T v)) p).length≤100000; omega)]
  rw [Wb hl]
  exact zFJ _ k
 ·rw [if_neg (by omega),if_neg h8,yb (by show 0+5≤5; omega),zk9,zCw,zel,zsZ _ b.T (by omega) (by omega),zag,if_neg (by omega),b.mk_v,b.v_mk]
theorem z34(z:List V)(hz:z.length=34)(b:Bk):xg z 0 b.v=b.v:=znc (by rw [b.len,hz])
theorem zHg(L:Nat)(hL:200000<L)(b:Bk)(hS:SndB b)(a:Adr)(src:Int)(k:List V→Bool→Int→Option β):yv β (L+100) b.v a.v src k=k (zec b a src).1.v (zec b a src).2 0:=by
 have hH:=hS.lenH
 have hT:=hS.lenT
 unfold yv zqz
 rw [yb (by rw [b.len]; omega),b.take,b.dem,zF0 _ b (by omega) (by omega) (by omega),(zeV b).2 hS,Xg,ze6,yb (by rw [b.len]; omega),yb (by show 0+3≤3; omega),zcr,zDO L hL b (by omega) (by omega)]
 generalize (zec b a src).1=b'
 generalize (zec b a src).2=r
 rw [yb ⟨b'.len,by omega⟩,z34 _ (by simp),ym,yb (by rw [b'.len]; omega),b'.take,yb ⟨b'.len,by omega⟩,z34 _ (by simp),ym,yb ⟨rfl,b'.len,by omega⟩]
end
section
set_option maxRecDepth 100000
theorem zIn(L:Nat)(v n:Int)(hn:1≤n)(hn2:n≤1000000000000):∃ r,0≤r∧r<n∧∀ (β:Type) (k:Int→Option β),zbi β L v n k=k r:=by
 by_cases h:XM v n<0
 ·have h1:=Int.lt_tmod_of_pos v (show 0<n by omega)
  refine ⟨XM v n+n,by omega,by omega,fun β k=>?_⟩
  simp only [zbi,zq3,ym]
  rw [yb (by omega),zap h,zZ (by omega) (by omega)]
 ·have h1:=Ya v (show 0<n by omega)
  refine ⟨XM v n,by omega,h1,fun β k=>?_⟩
  simp only [zbi,zq3,ym]
  rw [yb (by omega),zaD h]
structure Dk where
 l:List Int
 a:Int
 h0:0≤a
 h1:a≤l.length
 hl:l.length≤9223372036854775807
def Dk.es(d:Dk):List (List V):=za3 .i64 d.l
theorem zir(L:Nat)(d:Dk)(n:Int)(hn:1≤n)(hn2:n≤1000000000000):∃ (r:Int) (d':Dk),d'.l=d.l∧0≤r∧r<n∧∀ (β:Type) (k:Int→List (List V)→Int→Option β),xa β L n d.es d.a k=k r d'.es d'.a:=by
 obtain ⟨l,a,h0,h1,hl⟩:=d
 simp only [Dk.es]
 by_cases h:a<l.length
 ·obtain ⟨i,rfl⟩:∃ i:Nat,a=i:=⟨a.toNat,by omega⟩
  have hi:i<l.length:=by omega
  obtain ⟨r,q1,q2,q3⟩:=zIn L l[i] n hn hn2
  refine ⟨r,⟨l,i+1,by omega,by omega,hl⟩,rfl,q1,q2,fun β k=>?_⟩
  simp only [xa,zi3,zX,zi2,ym,zfu]
  have w1:QF .i64 ((i:Int)+1)=(i:Int)+1:=zZ (by omega) (by omega)
  have w2:QF .i64 ((i:Int)+1-1)=(i:Int):=by rw [zZ (by omega) (by omega)]; omega
  rw [zDi,if_pos (by omega),w1,w2,zcc (zyx _ hi),zE (by rfl),q3]
 ·refine ⟨0,⟨l,a,h0,h1,hl⟩,rfl,by omega,by omega,fun β k=>?_⟩
  simp only [xa,zi3,zX,zi2,ym,zfu]
  rw [zDi,if_neg (by omega)]
theorem zHC(L:Nat)(d:Dk):∃ (id:List Int) (d':Dk),d'.l=d.l∧id.length=32∧∀ (β:Type) (k:List V→List (List V)→Int→Option β),xA β L d.es d.a k=k (row .u8 id) d'.es d'.a:=by
 obtain ⟨r,d1,e1,_,_,q1⟩:=zir L d 5 (by omega) (by omega)
 obtain ⟨s,d2,e2,_,_,q2⟩:=zir L d1 7 (by omega) (by omega)
 refine ⟨QF .u8 r::(We 30 0++[QF .u8 s]),d2,by rw [e2,e1],by simp,fun β k=>?_⟩
 simp only [xA,ztx,q1,q2,ym]
 rw [yb (by simp)]
 rfl
theorem zHO(n:Int):0≤QF .u32 n:=by
 unfold QF
 simp only [IntKind.signed,Xo,WO,if_false,IntKind.bits]
 exact Int.emod_nonneg n (by decide)
theorem zHV(L:Nat)(d:Dk):∃ (a:Adr) (d':Dk),d'.l=d.l∧0≤a.h∧∀ (β:Type) (k:List V→List (List V)→Int→Option β),yA β L d.es d.a k=k a.v d'.es d'.a:=by
 obtain ⟨r1,d1,e1,_,_,q1⟩:=zir L d 6 (by omega) (by omega)
 obtain ⟨r2,d2,e2,_,_,q2⟩:=zir L d1 5 (by omega) (by omega)
 obtain ⟨r3,d3,e3,_,_,q3⟩:=zir L d2 2 (by omega) (by omega)
 obtain ⟨r4,d4,e4,_,_,q4⟩:=zir L d3 50 (by omega) (by omega)
 refine ⟨⟨QF .u32 (zqw .u32 (QF .u32 r1) 16+QF .u32 r2),QF .u16 r3,QF .u32 r4⟩,d4,by rw [e4,e3,e2,e1],zHO _,fun β k=>?_⟩
 simp only [yA,ztr,q1,q2,q3,q4,ym]
 rw [yb (by simp)]
 rfl
theorem zFQ(A B r:List V)(h:A.length=r.length):xg (A++B) 0 r=r++B:=by
 unfold xg
 rw [Yo,WB,Yj h,XB]
def Bk.new(s:List Int)(h:s.length=32):Bk:=⟨s,[],[],h⟩
theorem zDV(s:List Int)(h:s.length=32):SndB (Bk.new s h):=⟨TOk.nil _ _,TOk.nil _ _,fun x hx=>by cases hx⟩
def z34g:List V:=We 32 (Qa (0:Int))++[(V.gs 5 ([]:List (List V))),(V.gs 5 ([]:List (List V)))]
theorem zC8:z34g.length=34:=by simp [z34g]
theorem zFp{b:Bk}{i:Nat}(hi:i<b.H.length):∃ j:Nat,j<b.H.length∧zbZ (fun x=>yz x.a b.H[i].a) b.H 0=(j:Int):=by
 refine zpu ?_
 have:=zDS (fun x:Plc=>yz x.a b.H[i].a) b.H 0
 have h2:b.H.any (fun x=>yz x.a b.H[i].a)=true:=List.any_eq_true.2 ⟨b.H[i],W1 hi,zur _⟩
 rw [h2] at this
 exact of_decide_eq_true this
theorem zGc(L:Nat)(hL:200000<L):∀ (c m:Nat) (b:Bk) (d:Dk),c<m→c≤1000→SndB b→NnB b→∃ (b':Bk) (d':Dk),d'.l=d.l∧SndB b'∧NnB b'∧∀ (β:Type) (kx:List (List V)→Int→List V→List V→Option β),zcW xA xa zy yA yv (L+100) kx m (c:Int) d.es d.a z34g b.v=kx d'.es d'.a z34g b'.v:=by
 intro c
 induction c with
 | zero=>
  intro m b d hm hc hS hN
  refine ⟨b,d,rfl,hS,hN,fun β kx=>?_⟩
  obtain ⟨m,rfl⟩:∃ q,m=q+1:=⟨m-1,by omega⟩
  simp only [zcW,zeH]
  rw [zaD (by omega)]
 | succ c IH=>
  intro m b d hm hc hS hN
  obtain ⟨m,rfl⟩:∃ q,m=q+1:=⟨m-1,by omega⟩
  have hH:=hS.lenH
  have w:QF .i64 (((c+1:Nat):Int)-1)=(c:Int):=by rw [zZ (by omega) (by omega)]; omega
  obtain ⟨r0,d0,e0,g1,g2,q0⟩:=zir (L+100) d 4 (by omega) (by omega)
  by_cases h0:r0=0
  ·by_cases hp:0<b.H.length
   ·obtain ⟨r1,d1,e1,g3,g4,q1⟩:=zir (L+100) d0 (b.H.length:Int) (by omega) (by omega)
    obtain ⟨i,rfl⟩:∃ i:Nat,r1=i:=⟨r1.toNat,by omega⟩
    have hi:i<b.H.length:=by omega
    obtain ⟨j,hj,hf⟩:=zFp hi
    obtain ⟨b',d',e',hS',hN',q'⟩:=IH m (zpU b j b.H[j]) d1 (by omega) (by omega) (zBB hS hj) (zGM hN hj)
    refine ⟨b',d',by rw [e',e1,e0],hS',hN',fun β kx=>?_⟩
    simp only [zcW,zeH,q0]
    rw [zap (by omega),zda,if_pos h0,zcy b.g32,yP,zap (by omega),yb (by rw [b.len]; omega),zcy b.g32,zcy b.g32,yP,q1,zcc (zcg hi),b.take,b.dem,p13,zHQ L hL b hS _ j hj hf,yb ⟨Bk.len _,by rw [b.len]; omega⟩,z34 _ b.len,ym,ym,w]
    exact q' β kx
   ·obtain ⟨b',d',e',hS',hN',q'⟩:=IH m b d0 (by omega) (by omega) hS hN
    refine ⟨b',d',by rw [e',e0],hS',hN',fun β kx=>?_⟩
    simp only [zcW,zeH,q0]
    rw [zap (by omega),zda,if_pos h0,zcy b.g32,yP,zaD (by omega),ym,w]
    exact q' β kx
  ·obtain ⟨a,d1,e1,ha,q1⟩:=zHV (L+100) d0
   obtain ⟨r2,d2,e2,_,_,q2⟩:=zir (L+100) d1 4 (by omega) (by omega)
   obtain ⟨b',d',e',hS',hN',q'⟩:=IH m (zec b a (QF .u32 r2)).1 d2 (by omega) (by omega) (zsK hS _ _) (zCl hN ha _)
   refine ⟨b',d',by rw [e',e2,e1,e0],hS',hN',fun β kx=>?_⟩
   simp only [zcW,zeH,q0,q1,q2]
   rw [zap (by omega),zda,if_neg h0,yb (by rw [b.len]; omega),ym,b.take,b.dem,zHg L hL b hS,yb ⟨Bk.len _,by rw [b.len]; omega⟩,z34 _ b.len,ym,ym,w]
   exact q' β kx
theorem zH9(L:Nat)(hL:200000<L)(d:Dk):∃ (b:Bk) (d':Dk),d'.l=d.l∧SndB b∧NnB b∧∀ (β:Type) (k:List V→List (List V)→Int→Option β),zf β (L+100) d.es d.a k=k b.v d'.es d'.a:=by
 obtain ⟨s,d1,e1,hs,q1⟩:=zHC (L+100) d
 obtain ⟨r,d2,e2,g1,g2,q2⟩:=zir (L+100) d1 40 (by omega) (by omega)
 obtain ⟨c,rfl⟩:∃ c:Nat,r=c:=⟨r.toNat,by omega⟩
 obtain ⟨b',d',e',hS',hN',q'⟩:=zGc L hL c (L+100) (Bk.new s hs) d2 (by omega) (by omega) (zDV s hs) ⟨fun e he=>(by cases he),fun e he=>(by cases he)⟩
 refine ⟨b',d',by rw [e',e2,e1],hS',hN',fun β k=>?_⟩
 simp only [zf,zpS,ztl,q1,q2]
 have es:xg (We 32 (Qa (0:Int))++[(V.sl 5 ([]:List (List V))),(V.sl 5 ([]:List (List V)))]) 0 (row .u8 s)=(Bk.new s hs).v:=by
  rw [zFQ _ _ _ (by simp [zc7,hs])]; rfl
 rw [yb (by rw [zc7,hs]; omega),es,yb ⟨Bk.len _,by omega⟩,z34 _ (by simp),ym]
 refine (q' β _).trans ?_
 unfold zk7
 rw [yb (by rw [b'.len]; omega),b'.take,yb ⟨b'.len,by rw [zC8]; omega⟩,z34 _ zC8,ym,yb ⟨rfl,b'.len,by omega⟩]
end
section
set_option maxRecDepth 100000
variable {β:Type}
theorem zC5(L:Nat)(l:List Plc)(hl:l.length≤1000000)(k:List (List V)→Option β):xo β L (xG l) k=k (xG l):=by
 simp only [xo,zdd]
 have hp:=ztW l
 have hlen:=yP l
 generalize xG l=q at hp hlen
 cases q with
 | nil=>rfl
 | cons h t=>
  simp only [lc]
  rw [yb (by rw [hlen]; exact zs1 (by omega) hl),yb (.inl (by simp)),zyc hp]
theorem zz1(L:Nat)(b:Bk)(hH:b.H.length≤1000000)(hT:b.T.length≤1000000)(k:zjf β):yB β L b.v k=k (b.salt.getD 0 0) (b.salt.getD 1 0) (b.salt.getD 2 0) (b.salt.getD 3 0) (b.salt.getD 4 0) (b.salt.getD 5 0) (b.salt.getD 6 0) (b.salt.getD 7 0) (b.salt.getD 8 0) (b.salt.getD 9 0) (b.salt.getD 10 0) (b.salt.getD 11 0) (b.salt.getD 12 0) (b.salt.getD 13 0) (b.salt.getD 14 0) (b.salt.getD 15 0) (b.salt.getD 16 0) (b.salt.getD 17 0) (b.salt.getD 18 0) (b.salt.getD 19 0) (b.salt.getD 20 0) (b.salt.getD 21 0) (b.salt.getD 22 0) (b.salt.getD 23 0) (b.salt.getD 24 0) (b.salt.getD 25 0) (b.salt.getD 26 0) (b.salt.getD 27 0) (b.salt.getD 28 0) (b.salt.getD 29 0) (b.salt.getD 30 0) (b.salt.getD 31 0) b.H.length b.T.length (zt b.H) (zt b.T):=by
 unfold yB zl2
 rw [yb b.len,yh b 0 (by omega),yh b 1 (by omega),yh b 2 (by omega),yh b 3 (by omega),yh b 4 (by omega),yh b 5 (by omega),yh b 6 (by omega),yh b 7 (by omega),yh b 8 (by omega),yh b 9 (by omega),yh b 10 (by omega),yh b 11 (by omega),yh b 12 (by omega),yh b 13 (by omega),yh b 14 (by omega),yh b 15 (by omega),yh b 16 (by omega),yh b 17 (by omega),yh b 18 (by omega),yh b 19 (by omega),yh b 20 (by omega),yh b 21 (by omega),yh b 22 (by omega),yh b 23 (by omega),yh b 24 (by omega),yh b 25 (by omega),yh b 26 (by omega),yh b 27 (by omega),yh b 28 (by omega),yh b 29 (by omega),yh b 30 (by omega),yh b 31 (by omega)]
 have g1:∀ k:List (List V)→Option β,cL 5 b.v 32 k=k (xG b.H):=znl b.g32
 have g2:∀ k:List (List V)→Option β,cL 5 b.v 33 k=k (xG b.T):=znl b.g33
 rw [g1,g2,zC5 L b.H hH,zC5 L b.T hT,yP,yP]
 rfl
theorem zGu(L:Nat)(a b:Adr)(k:Bool→Option β):y5 β L a.v b.v k=k (yz a b):=by
 simp only [y5,zoh]
 rw [zE (n:=a.h) rfl,zE (n:=b.h) rfl,zda]
 by_cases h:a.h=b.h
 ·rw [if_pos h,zE (n:=a.p) rfl,zE (n:=b.p) rfl,yz,h]
  congr 1
  simp
 ·rw [if_neg h,yz,beq_eq_false_iff_ne.2 h]; rfl
theorem zBu(L:Nat)(p:Plc)(a:Adr)(k:Bool→List V→Option β):ze β L p.v a.v k=k (yz p.a a) a.v:=by
 unfold ze zlS
 rw [yb (by show 1+3≤5; omega),yb (by show 0+3≤3; omega),p13,zcr,zGu]
theorem zoI(l:List Plc)(z:List V):(zt l++z).length=l.length*5+z.length:=by rw [Wm,za0]
theorem zF3{l:List Plc}{i j:Nat}(hi:i<l.length)(hj:j<5)(z:List V):(zt l++z)[i*5+j]?=l[i].v[j]?:=by
 rw [Wv (by rw [za0]; omega),zwg hi hj]
theorem zDT(l:List Plc)(i:Nat)(hi:i≤l.length)(z:List V):(zt l++z).drop (i*5)=zt (l.drop i)++z:=by
 rw [Xv (by rw [za0]; omega)]
 congr 1
 unfold zt
 rw [zA0 (ztW l),zAZ]
theorem zAU(l:List Plc)(i:Nat)(hi:i≤l.length)(z:List V):(zt l++z).take (i*5)=zt (l.take i):=by
 rw [Xw (by rw [za0]; omega)]
 unfold zt
 rw [zz5 (ztW l),zsY]
theorem zIU{l:List Plc}{i:Nat}(hi:i<l.length)(z:List V):XI 5 (XJ (i*5) (zt l++z))=l[i].v:=by
 rw [Xv (by rw [za0]; omega),Xw (by rw [XD,za0]; omega),zDm hi]
theorem zAn{l:List Plc}{j:Nat}(h:j<l.length)(z:List V)(k:Int→Option β):cI .u32 (zt l++z) (j*5+3) k=k l[j].a.t:=by
 refine zE ?_ k
 rw [zF3 h (by omega)]; rfl
theorem zIA{l:List Plc}{j:Nat}(h:j<l.length)(z:List V)(k:Int→Option β):cI .i64 (zt l++z) (j*5+0) k=k l[j].b:=by
 refine zE ?_ k
 rw [zF3 h (by omega)]; rfl
theorem zwr:∀ (l:List Plc) (z:List V),xh 5 l.length (zt l++z)=xG l
 | [],z=>rfl
 | x::l,z=>by
  have e:zt (x::l)++z=x.v++(zt l++z):=by simp [zt,xG]
  rw [e,XY,xh]
  have h:=zwr l z
  show x.v::xh 5 l.length (zt l++z)=xG (x::l)
  rw [h]; rfl
theorem fl1(p:Plc):XK (xh 5 1 p.v)=p.v:=rfl
theorem zFC(L:Nat)(ps:List Plc)(hp:ps.length≤1000000)(z:List V)(a:Adr)(kr:Int→List V→List V→Option β)(kx:List V→List V→Option β)(k:Int→List V→List V→Option β)(hr:∀ i b c,kr i b c=k i b c)(hx:∀ b c,kx b c=k (-1) b c):∀ (m i:Nat),i≤ps.length→ps.length-i<m →
  zab ze L kr kx m ps.length ((ps.length:Nat):Int) (i:Int) (zt ps++z) a.v=k (zbZ (fun e=>yz e.a a) (ps.drop i) i) (zt ps++z) a.v:=by
 intro m
 induction m with
 | zero=>intro i h1 h2; omega
 | succ m IH=>
  intro i h1 h2
  unfold zab zbK
  by_cases h:i<ps.length
  ·have ih:=IH (i+1) (by omega) (by omega)
   rw [zap (by omega),yb (by omega),at0,yb (by rw [zoI]; omega),zIU h,zBu,yb rfl,WP h,zbZ,ym,yT (by omega)]
   cases yz ps[i].a a with
   | true=>exact hr _ _ _
   | false=>exact ih
  ·rw [zaD (by omega),WI (by omega),hx]; rfl
theorem zHP(L:Nat)(ps:List Plc)(hp:ps.length≤1000000)(hL:ps.length<L)(z:List V)(a:Adr)(k:Int→List V→List V→Option β):xn β L ps.length (zt ps++z) a.v k=k (zbZ (fun e=>yz e.a a) ps 0) (zt ps++z) a.v:=by
 unfold xn za8 zcp
 rw [show ((0:Int))=((0:Nat):Int) from rfl]
 exact zFC L ps hp z a _ _ k (fun _ _ _=>rfl) (fun _ _=>rfl) L 0 (by omega) (by omega)
theorem zCQ(L:Nat)(ps:List Plc)(hp:ps.length≤1000000)(hL:ps.length<L)(a:Adr)(k:Int→List V→Option β):zY β L ps.length a.v (zt ps) k=k (zbZ (fun e=>yz e.a a) ps 0) (zt ps):=by
 unfold zY zoy
 have h:=fun (k:Int→List V→List V→Option β)=>zHP L ps hp hL [] a k
 simp only [XZ] at h
 rw [h,yb rfl]
theorem zIk(L:Nat)(l:List Plc)(hl:l.length≤1000000)(z:List V)(v:Int)(kx:Nat→Int→Int→List V→Option β):∀ (m i:Nat),i≤l.length→l.length-i<m →
  zdO L kx m l.length v (i:Int) (zt l++z)=kx l.length v ((i+((l.drop i).takeWhile (fun x=>decide (x.b<v))).length:Nat):Int) (zt l++z):=by
 intro m
 induction m with
 | zero=>intro i h1 h2; omega
 | succ m IH=>
  intro i h1 h2
  unfold zdO zio
  by_cases h:i<l.length
  ·have ih:=IH (i+1) (by omega) (by omega)
   have e0:0+XH (i:Int)*5+0=i*5+0:=by rw [XT]; omega
   rw [zap (by omega),yb (by omega),e0,zIA h,WP h,XV,zag,ym,yT (by omega)]
   by_cases hb:l[i].b<v
   ·rw [if_pos hb,if_pos (by simpa using hb),XY]
    refine ih.trans ?_
    congr 2; omega
   ·rw [if_neg hb,if_neg (by simpa using hb)]; rfl
  ·rw [zaD (by omega),WI (by omega)]; rfl
theorem zIY(L:Nat)(l:List Plc)(hl:l.length≤1000000)(z:List V)(v f:Int)(kx:Int→Int→List V→Option β):∀ (m i:Nat),i≤l.length→l.length-i<m →
  zdh L kx m l.length v f (i:Int) (zt l++z)=kx f ((i+((l.drop i).takeWhile (fun x=>x.b==v)).length:Nat):Int) (zt l++z):=by
 intro m
 induction m with
 | zero=>intro i h1 h2; omega
 | succ m IH=>
  intro i h1 h2
  unfold zdh zg5
  by_cases h:i<l.length
  ·have ih:=IH (i+1) (by omega) (by omega)
   have e0:0+XH (i:Int)*5+0=i*5+0:=by rw [XT]; omega
   rw [zap (by omega),yb (by omega),e0,zIA h,WP h,XV,zda,ym,yT (by omega)]
   by_cases hb:l[i].b=v
   ·rw [if_pos hb,if_pos (by simpa using hb),XY]
    refine ih.trans ?_
    congr 2; omega
   ·rw [if_neg hb,if_neg (by simpa using hb)]; rfl
  ·rw [zaD (by omega),WI (by omega)]; rfl
theorem zuU(L:Nat)(l:List Plc)(hl:l.length≤1000000)(hL:l.length<L)(z:List V)(v:Int)(k:Int→Int→List V→Option β):xd β L l.length v (zt l++z) k=k ((xv l v:Nat):Int) ((toN l v:Nat):Int) (zt l++z):=by
 unfold xd zhY zmc
 rw [show ((0:Int))=((0:Nat):Int) from rfl]
 refine (zIk L l hl z v _ L 0 (by omega) (by omega)).trans ?_
 have hf:=zj6 l v
 have e:0+((l.drop 0).takeWhile (fun x=>decide (x.b<v))).length=xv l v:=by rw [X3,WB]; rfl
 rw [e]
 unfold zeh zg3
 refine (zIY L l hl z v _ _ L (xv l v) (by omega) (by omega)).trans ?_
 rfl
theorem zrk(L:Nat)(l:List Plc)(hl:l.length≤1000000)(z:List V)(i:Nat)(hi:i≤l.length)(p:Plc)(k:List (List V)→Nat→List V→Option β):ya β L l.length (i:Int) 1 (zt l++z) p.v k=k (xG (l.take i++[p]++l.drop i)) (zt l++z).length p.v:=by
 have hlen:(l.take i++[p]++l.drop i).length=l.length+1:=by simp; omega
 have e:zpy 5 l.length 1 i (zt l++z) p.v=xG (l.take i++[p]++l.drop i):=by
  unfold zpy
  rw [zAU l i hi,zAU l l.length (Wq _),Xu (Wq _)]
  have h2:=zDT l i hi []
  rw [XZ,XZ] at h2
  rw [h2]
  have h1:p.v=zt [p]:=by simp [zt,xG]
  rw [h1,← znq,← znq]
  exact zr1 hlen.symm
 unfold ya
 rw [yb ⟨by omega,by omega,by omega,by rw [zoI]; omega,rfl,(zs1 hl (by omega)).1,(zs1 hl (by omega)).2⟩,XT,e]
theorem zw5(L:Nat)(l:List Plc)(hl:l.length≤1000000)(z:List V)(i:Nat)(hi:i<l.length):∃ z':List V,z'.length=z.length+5∧∀ (β:Type) (k:Nat→List V→Option β),za β L l.length (i:Int) ((i+1:Nat):Int) (zt l++z) k=k (xU l i).length (zt (xU l i)++z'):=by
 have hrl:(xU l i).length=l.length-1:=by unfold xU; simp; omega
 have hd:XJ (0+(i+1)*5) (zt l++z)=zt (l.drop (i+1))++z:=by rw [WB]; exact zDT l (i+1) (by omega) z
 have hcl:(l.drop (i+1)).length=l.length-(i+1):=by simp
 have hch:xh 5 (l.length-(i+1)) (XJ (0+(i+1)*5) (zt l++z))=xG (l.drop (i+1)):=by rw [hd,← hcl]; exact zwr _ z
 obtain ⟨w,hw⟩:∃ w,w=XJ (i*5+(zt (l.drop (i+1))).length) (zt l++z):=⟨_,rfl⟩
 have hr2:xg (zt l++z) (i*5) (XK (xG (l.drop (i+1))))=zt (xU l i)++w:=by
  unfold xg xU
  rw [zAU l i (by omega),znq]
  show zt (l.take i)++zt (l.drop (i+1))++XJ (i*5+(zt (l.drop (i+1))).length) (zt l++z)=_
  rw [← hw]
 have hwl:w.length=z.length+5:=by
  rw [hw,XD,zoI,za0,hcl]; omega
 have hend:i+(l.length-(i+1))=l.length-1:=by omega
 refine ⟨XK (We 1 [(V.sc (.int .i64 (0:Int))),(V.sc (.int .u32 (0:Int))),(V.sc (.int .u16 (0:Int))),(V.sc (.int .u32 (0:Int))),(V.sc (.int .u32 (0:Int)))])++w.drop 5,by simp [hwl],fun β k=>?_⟩
 have hr3:xg (zt (xU l i)++w) (0+(l.length-1)*5) (XK (We 1 [(V.sc (.int .i64 (0:Int))),(V.sc (.int .u32 (0:Int))),(V.sc (.int .u16 (0:Int))),(V.sc (.int .u32 (0:Int))),(V.sc (.int .u32 (0:Int)))]))=zt (xU l i)++(XK (We 1 [(V.sc (.int .i64 (0:Int))),(V.sc (.int .u32 (0:Int))),(V.sc (.int .u16 (0:Int))),(V.sc (.int .u32 (0:Int))),(V.sc (.int .u32 (0:Int)))])++w.drop 5):=by
  have hl5:(zt (xU l i)).length=(l.length-1)*5:=by rw [za0,hrl]
  unfold xg
  rw [WB,Xw (by omega),Xu (by omega),Yf,WI (by omega),XB,hl5,Wu]
  congr 3
  simp
 unfold za zcS
 simp only [XT,hch,yP,hcl,hend,ym,hr2]
 rw [yb (by omega),yb (by omega),yb (by omega),zaD (by omega),zda,if_neg (by omega),yb (by omega),yb (by omega),yb (by omega),yb (by omega),yb (by omega),show l.length-(l.length-1)=1 by omega,hr3,hrl]
end
section
set_option maxRecDepth 100000
variable {β:Type}
def zfc(s:List Int)(H:List Plc)(a:Adr)(src:Int):List Plc × Bool:=
 if toN H (hbk s a src)-xv H (hbk s a src)≥8 then
  (if zuf H (zcs H (toN H (hbk s a src)-xv H (hbk s a src)) (xv H (hbk s a src)) (xv H (hbk s a src)))≥a.t then (H,false)
   else (zgt (xU H (zcs H (toN H (hbk s a src)-xv H (hbk s a src)) (xv H (hbk s a src)) (xv H (hbk s a src)))) ⟨hbk s a src,a,src⟩,true))
 else (zgt H ⟨hbk s a src,a,src⟩,true)
theorem zx5(b:Bk)(a:Adr)(src:Int)(h1:¬ zbZ (fun x=>yz x.a a) b.T 0≥0)(h2:¬ zbZ (fun x=>yz x.a a) b.H 0≥0):zec b a src=(⟨b.salt,(zfc b.salt b.H a src).1,b.T,b.hs⟩,(zfc b.salt b.H a src).2):=by
 unfold zec zfc
 rw [if_neg h1,if_neg h2]
 split
 ·split <;> rfl
 ·rfl
theorem zFi(A B C:List Plc){j:Nat}(hj:j<B.length):xU (A++(B++C)) (A.length+j)=A++(xU B j++C):=by
 unfold xU
 rw [List.take_append,Xu (by omega),show A.length+j-A.length=j by omega,Xw (by omega)]
 rw [show A.length+j+1=A.length+(j+1) by omega,Yf,WI (by omega),XB,show A.length+(j+1)-A.length=j+1 by omega,Xv (by omega)]
 simp
theorem zCM{l:List Plc}{v:Int}(h:Srt l){m:Nat}(h1:xv l v≤m)(h2:m<toN l v):toN (xU l m) v=toN l v-1:=by
 obtain ⟨A,B,C,rfl,hA,hB,hC⟩:=h.split3 v
 rw [zrc hA hB hC] at h1
 rw [zpo hA hB hC] at h2
 obtain ⟨j,rfl⟩:∃ j,m=A.length+j:=⟨m-A.length,by omega⟩
 have hj:j<B.length:=by omega
 have hBl:(xU B j).length=B.length-1:=by unfold xU; simp; omega
 rw [zFi A B C hj,zpo hA hB hC,zpo hA (fun x hx=>hB x ((zdl B j).subset hx)) hC,hBl]
 omega
theorem zFy(l:List Plc)(n i:Nat):zcs l (n+1) i i=zcs l n (i+1) i:=by
 rw [zcs]
 congr 1
 split <;> rfl
theorem zFv(L:Nat)(b:Bk)(hH:b.H.length≤1000000)(z:Nat)(hz:z≤b.H.length)(zs b1 p:List V)(src v:Int)(tl:Nat)(kx:zlv β):∀ (m i c:Nat),i≤z→z-i<m→c<b.H.length →
  zcq zc xd ya za L kx m src v (z:Int) (c:Int) (i:Int) (zt b.H++zs) b1 (b.salt.getD 0 0) (b.salt.getD 1 0) (b.salt.getD 2 0) (b.salt.getD 3 0) (b.salt.getD 4 0) (b.salt.getD 5 0) (b.salt.getD 6 0) (b.salt.getD 7 0) (b.salt.getD 8 0) (b.salt.getD 9 0) (b.salt.getD 10 0) (b.salt.getD 11 0) (b.salt.getD 12 0) (b.salt.getD 13 0) (b.salt.getD 14 0) (b.salt.getD 15 0) (b.salt.getD 16 0) (b.salt.getD 17 0) (b.salt.getD 18 0) (b.salt.getD 19 0) (b.salt.getD 20 0) (b.salt.getD 21 0) (b.salt.getD 22 0) (b.salt.getD 23 0) (b.salt.getD 24 0) (b.salt.getD 25 0) (b.salt.getD 26 0) (b.salt.getD 27 0) (b.salt.getD 28 0) (b.salt.getD 29 0) (b.salt.getD 30 0) (b.salt.getD 31 0) b.H.length tl p 0 0 0 0 0 0 0 0 0 0 0 0 0 0 0 0 0 0 0 0 0 0 0 0 0 0 0 0 0 0 0 0 [] []
   = kx src v (z:Int) ((zcs b.H (z-i) i c:Nat):Int) (zt b.H++zs) b1 (b.salt.getD 0 0) (b.salt.getD 1 0) (b.salt.getD 2 0) (b.salt.getD 3 0) (b.salt.getD 4 0) (b.salt.getD 5 0) (b.salt.getD 6 0) (b.salt.getD 7 0) (b.salt.getD 8 0) (b.salt.getD 9 0) (b.salt.getD 10 0) (b.salt.getD 11 0) (b.salt.getD 12 0) (b.salt.getD 13 0) (b.salt.getD 14 0) (b.salt.getD 15 0) (b.salt.getD 16 0) (b.salt.getD 17 0) (b.salt.getD 18 0) (b.salt.getD 19 0) (b.salt.getD 20 0) (b.salt.getD 21 0) (b.salt.getD 22 0) (b.salt.getD 23 0) (b.salt.getD 24 0) (b.salt.getD 25 0) (b.salt.getD 26 0) (b.salt.getD 27 0) (b.salt.getD 28 0) (b.salt.getD 29 0) (b.salt.getD 30 0) (b.salt.getD 31 0) b.H.length tl p 0 0 0 0 0 0 0 0 0 0 0 0 0 0 0 0 0 0 0 0 0 0 0 0 0 0 0 0 0 0 0 0 [] []:=by
 intro m
 induction m with
 | zero=>intro i c h1 h2 h3; omega
 | succ m IH=>
  intro i c h1 h2 h3
  unfold zcq zfz
  by_cases h:i<z
  ·have hi:i<b.H.length:=by omega
   rw [zap (by omega),yb (by omega),at3,zAn hi,yb (by omega),at3,zAn h3,zag,show z-i=(z-(i+1))+1 by omega,zcs,zhl hi,zhl h3]
   by_cases ht:b.H[i].a.t<b.H[c].a.t
   ·rw [if_pos ht,if_pos ht,ym,yT (by omega)]
    exact IH (i+1) i (by omega) (by omega) hi
   ·rw [if_neg ht,if_neg ht,ym,yT (by omega)]
    exact IH (i+1) c (by omega) (by omega) h3
  ·rw [zaD (by omega),show z-i=0 by omega]; rfl
theorem zGA(L:Nat)(hL:200000<L)(b:Bk)(hs:Srt b.H)(hH:b.H.length≤100000)(z b1:List V)(tl:Nat)(a:Adr)(src:Int)(k:zdt β)(k1:zfq β) :
  yX β (L+100) (b.salt.getD 0 0) (b.salt.getD 1 0) (b.salt.getD 2 0) (b.salt.getD 3 0) (b.salt.getD 4 0) (b.salt.getD 5 0) (b.salt.getD 6 0) (b.salt.getD 7 0) (b.salt.getD 8 0) (b.salt.getD 9 0) (b.salt.getD 10 0) (b.salt.getD 11 0) (b.salt.getD 12 0) (b.salt.getD 13 0) (b.salt.getD 14 0) (b.salt.getD 15 0) (b.salt.getD 16 0) (b.salt.getD 17 0) (b.salt.getD 18 0) (b.salt.getD 19 0) (b.salt.getD 20 0) (b.salt.getD 21 0) (b.salt.getD 22 0) (b.salt.getD 23 0) (b.salt.getD 24 0) (b.salt.getD 25 0) (b.salt.getD 26 0) (b.salt.getD 27 0) (b.salt.getD 28 0) (b.salt.getD 29 0) (b.salt.getD 30 0) (b.salt.getD 31 0) b.H.length tl a.v src (zt b.H++z) b1 k k1=if (zfc b.salt b.H a src).2=true then k (b.salt.getD 0 0) (b.salt.getD 1 0) (b.salt.getD 2 0) (b.salt.getD 3 0) (b.salt.getD 4 0) (b.salt.getD 5 0) (b.salt.getD 6 0) (b.salt.getD 7 0) (b.salt.getD 8 0) (b.salt.getD 9 0) (b.salt.getD 10 0) (b.salt.getD 11 0) (b.salt.getD 12 0) (b.salt.getD 13 0) (b.salt.getD 14 0) (b.salt.getD 15 0) (b.salt.getD 16 0) (b.salt.getD 17 0) (b.salt.getD 18 0) (b.salt.getD 19 0) (b.salt.getD 20 0) (b.salt.getD 21 0) (b.salt.getD 22 0) (b.salt.getD 23 0) (b.salt.getD 24 0) (b.salt.getD 25 0) (b.salt.getD 26 0) (b.salt.getD 27 0) (b.salt.getD 28 0) (b.salt.getD 29 0) (b.salt.getD 30 0) (b.salt.getD 31 0) (zfc b.salt b.H a src).1.length tl true (zt b.H++z).length b1 (zt (zfc b.salt b.H a src).1) else k1 (b.salt.getD 0 0) (b.salt.getD 1 0) (b.salt.getD 2 0) (b.salt.getD 3 0) (b.salt.getD 4 0) (b.salt.getD 5 0) (b.salt.getD 6 0) (b.salt.getD 7 0) (b.salt.getD 8 0) (b.salt.getD 9 0) (b.salt.getD 10 0) (b.salt.getD 11 0) (b.salt.getD 12 0) (b.salt.getD 13 0) (b.salt.getD 14 0) (b.salt.getD 15 0) (b.salt.getD 16 0) (b.salt.getD 17 0) (b.salt.getD 18 0) (b.salt.getD 19 0) (b.salt.getD 20 0) (b.salt.getD 21 0) (b.salt.getD 22 0) (b.salt.getD 23 0) (b.salt.getD 24 0) (b.salt.getD 25 0) (b.salt.getD 26 0) (b.salt.getD 27 0) (b.salt.getD 28 0) (b.salt.getD 29 0) (b.salt.getD 30 0) (b.salt.getD 31 0) b.H.length tl false (zt b.H++z) b1:=by
 unfold yX zjo zmT
 rw [yb (by show 0+3≤3; omega),zcr,b.cells,zEr L b.salt b.hs]
 unfold zfc
 generalize hbk b.salt a src=v
 have hr:=zj6 b.H v
 rw [zuU _ b.H (by omega) (by omega),yb rfl,ym,zZ (by omega) (by omega),zag]
 by_cases h8:toN b.H v-xv b.H v≥8
 ·obtain ⟨n,hn⟩:∃ n,toN b.H v-xv b.H v=n+1:=⟨toN b.H v-xv b.H v-1,by omega⟩
  rw [if_pos (by omega),if_pos h8,ym,yT (by omega)]
  refine (zFv (L+100) b (by omega) (toN b.H v) hr.2 z b1 a.v src v tl _ (L+100) (xv b.H v+1) (xv b.H v) (by omega) (by omega) (by omega)).trans ?_
  have hm:=ziy b.H (xv b.H v) (toN b.H v) (toN b.H v-xv b.H v) (xv b.H v) (xv b.H v) (Wq _) (by omega) (Wq _) (by omega)
  have he:zcs b.H (toN b.H v-(xv b.H v+1)) (xv b.H v+1) (xv b.H v)=zcs b.H (toN b.H v-xv b.H v) (xv b.H v) (xv b.H v):=by
   rw [hn,zFy]; congr 1; omega
  rw [he]
  generalize zcs b.H (toN b.H v-xv b.H v) (xv b.H v) (xv b.H v)=m at hm ⊢
  have hml:m<b.H.length:=by omega
  unfold zeI
  rw [yb (by omega),at3,zAn hml,zE (n:=a.t) rfl,zag,zhl hml]
  by_cases ht:b.H[m].a.t≥a.t
  ·rw [if_pos ht,if_pos ht,if_neg (by simp)]
  ·obtain ⟨z',hz',hdel⟩:=zw5 (L+100) b.H (by omega) z m hml
   have hrl:(xU b.H m).length=b.H.length-1:=by unfold xU; simp; omega
   have htr:=zCM hs hm.1 hm.2
   have hle:toN (xU b.H m) v≤(xU b.H m).length:=(zj6 _ v).2
   have hlen:(zt (xU b.H m)++z').length=(zt b.H++z).length:=by rw [zoI,zoI,hz',hrl]; omega
   rw [if_neg ht,if_neg ht,if_pos rfl,ym,yT (by omega),hdel,hlen,yb rfl,ym,show QF .i64 ((toN b.H v:Int)-1)=((toN b.H v-1:Nat):Int) by rw [zZ (by omega) (by omega)]; omega,yb (by show 0+3≤3; omega),zcr,yb ⟨rfl,by omega⟩,yb (by show 1=1∧4+1≤5; omega),yb ⟨rfl,by omega⟩,zCY,fl1,← htr,zrk _ _ (by omega) z' _ hle,hlen,yb rfl,yP]
   rfl
 ·rw [if_neg (by omega),if_neg h8,if_pos rfl,yb (by show 0+3≤3; omega),yb ⟨rfl,by omega⟩,yb (by show 1=1∧4+1≤5; omega),yb ⟨rfl,by omega⟩,zCY,fl1,zrk _ _ (by omega) z _ hr.2,yb rfl,yP]
  rfl
end
section
set_option maxRecDepth 100000
variable {β:Type}
theorem Bk.vv(b:Bk):[V.sc (.int .u8 (b.salt.getD 0 0)),V.sc (.int .u8 (b.salt.getD 1 0)),V.sc (.int .u8 (b.salt.getD 2 0)),V.sc (.int .u8 (b.salt.getD 3 0)),V.sc (.int .u8 (b.salt.getD 4 0)),V.sc (.int .u8 (b.salt.getD 5 0)),V.sc (.int .u8 (b.salt.getD 6 0)),V.sc (.int .u8 (b.salt.getD 7 0)),V.sc (.int .u8 (b.salt.getD 8 0)),V.sc (.int .u8 (b.salt.getD 9 0)),V.sc (.int .u8 (b.salt.getD 10 0)),V.sc (.int .u8 (b.salt.getD 11 0)),V.sc (.int .u8 (b.salt.getD 12 0)),V.sc (.int .u8 (b.salt.getD 13 0)),V.sc (.int .u8 (b.salt.getD 14 0)),V.sc (.int .u8 (b.salt.getD 15 0)),V.sc (.int .u8 (b.salt.getD 16 0)),V.sc (.int .u8 (b.salt.getD 17 0)),V.sc (.int .u8 (b.salt.getD 18 0)),V.sc (.int .u8 (b.salt.getD 19 0)),V.sc (.int .u8 (b.salt.getD 20 0)),V.sc (.int .u8 (b.salt.getD 21 0)),V.sc (.int .u8 (b.salt.getD 22 0)),V.sc (.int .u8 (b.salt.getD 23 0)),V.sc (.int .u8 (b.salt.getD 24 0)),V.sc (.int .u8 (b.salt.getD 25 0)),V.sc (.int .u8 (b.salt.getD 26 0)),V.sc (.int .u8 (b.salt.getD 27 0)),V.sc (.int .u8 (b.salt.getD 28 0)),V.sc (.int .u8 (b.salt.getD 29 0)),V.sc (.int .u8 (b.salt.getD 30 0)),V.sc (.int .u8 (b.salt.getD 31 0)),(V.sl 5 (xG b.H)),(V.sl 5 (xG b.T))]=b.v:=by rw [b.mk_v]; rfl
theorem Bk.vx(b:Bk)(H T:List Plc):[V.sc (.int .u8 (b.salt.getD 0 0)),V.sc (.int .u8 (b.salt.getD 1 0)),V.sc (.int .u8 (b.salt.getD 2 0)),V.sc (.int .u8 (b.salt.getD 3 0)),V.sc (.int .u8 (b.salt.getD 4 0)),V.sc (.int .u8 (b.salt.getD 5 0)),V.sc (.int .u8 (b.salt.getD 6 0)),V.sc (.int .u8 (b.salt.getD 7 0)),V.sc (.int .u8 (b.salt.getD 8 0)),V.sc (.int .u8 (b.salt.getD 9 0)),V.sc (.int .u8 (b.salt.getD 10 0)),V.sc (.int .u8 (b.salt.getD 11 0)),V.sc (.int .u8 (b.salt.getD 12 0)),V.sc (.int .u8 (b.salt.getD 13 0)),V.sc (.int .u8 (b.salt.getD 14 0)),V.sc (.int .u8 (b.salt.getD 15 0)),V.sc (.int .u8 (b.salt.getD 16 0)),V.sc (.int .u8 (b.salt.getD 17 0)),V.sc (.int .u8 (b.salt.getD 18 0)),V.sc (.int .u8 (b.salt.getD 19 0)),V.sc (.int .u8 (b.salt.getD 20 0)),V.sc (.int .u8 (b.salt.getD 21 0)),V.sc (.int .u8 (b.salt.getD 22 0)),V.sc (.int .u8 (b.salt.getD 23 0)),V.sc (.int .u8 (b.salt.getD 24 0)),V.sc (.int .u8 (b.salt.getD 25 0)),V.sc (.int .u8 (b.salt.getD 26 0)),V.sc (.int .u8 (b.salt.getD 27 0)),V.sc (.int .u8 (b.salt.getD 28 0)),V.sc (.int .u8 (b.salt.getD 29 0)),V.sc (.int .u8 (b.salt.getD 30 0)),V.sc (.int .u8 (b.salt.getD 31 0)),(V.sl 5 (xG H)),(V.sl 5 (xG T))]=(⟨b.salt,H,T,b.hs⟩:Bk).v:=by rw [b.mk_v]; rfl
theorem Bk.c32(b:Bk)(k:List (List V)→Option β):cL 5 b.v 32 k=k (xG b.H):=znl b.g32 k
theorem Bk.c33(b:Bk)(k:List (List V)→Option β):cL 5 b.v 33 k=k (xG b.T):=znl b.g33 k
theorem zEd{n:Nat}{l:List Plc}{j:Nat}{t:Int}(h:n=l.length):xh 5 n (zt (zsi l j t))=xG (zsi l j t):=zr1 (by rw [zyC]; exact h)
theorem zwh(L:Nat)(hL:200000<L)(b:Bk)(hH:b.H.length≤1000)(hT:b.T.length≤1000)(a:Adr)(src:Int)(k:List V→Bool→Int→Option β) :
  yc β (L+100) b.v a.v src k=if zg8 b=true then k (zec b a src).1.v (zec b a src).2 0 else k bk0.v false 6:=by
 unfold yc zmP
 rw [yb b.len,yh b 0 (by omega),yh b 1 (by omega),yh b 2 (by omega),yh b 3 (by omega),yh b 4 (by omega),yh b 5 (by omega),yh b 6 (by omega),yh b 7 (by omega),yh b 8 (by omega),yh b 9 (by omega),yh b 10 (by omega),yh b 11 (by omega),yh b 12 (by omega),yh b 13 (by omega),yh b 14 (by omega),yh b 15 (by omega),yh b 16 (by omega),yh b 17 (by omega),yh b 18 (by omega),yh b 19 (by omega),yh b 20 (by omega),yh b 21 (by omega),yh b 22 (by omega),yh b 23 (by omega),yh b 24 (by omega),yh b 25 (by omega),yh b 26 (by omega),yh b 27 (by omega),yh b 28 (by omega),yh b 29 (by omega),yh b 30 (by omega),yh b 31 (by omega),b.c32,b.c33,b.vv,zzZ L b (by omega) (by omega) (by omega),zu9]
 cases hS:zg8 b with
 | false=>
  rw [Bool.not_false,zlx,if_neg (by simp),zEq]
 | true=>
  have hs:=(zeV b).1 hS
  rw [Xg,ze6,if_pos rfl,zz1 _ b (by omega) (by omega),yb (by show 0+3≤3; omega),zcr,zCQ _ b.T (by omega) (by omega),yb rfl,zag]
  by_cases h:zbZ (fun x=>yz x.a a) b.T 0≥0
  ·obtain ⟨j,hj,e⟩:=zpu h
   unfold zec
   rw [if_pos h,if_pos h,e,yb (by omega),at3,cT hj,zE (n:=a.t) rfl,ym,yb (by omega),yb ⟨rfl,by rw [za0]; omega⟩,ym,zsX hj,zel,zEd rfl,b.vx,XT]
  ·rw [if_neg h,yb (by show 0+3≤3; omega),zCQ _ b.H (by omega) (by omega),yb rfl,zag]
   by_cases h':zbZ (fun x=>yz x.a a) b.H 0≥0
   ·obtain ⟨j,hj,e⟩:=zpu h'
    unfold zec
    rw [if_pos h',if_neg h,if_pos h',e,yb (by omega),at3,cT hj,zE (n:=a.t) rfl,ym,yb (by omega),yb ⟨rfl,by rw [za0]; omega⟩,ym,zsX hj,zel,zEd rfl,b.vx,XT]
   ·have hl:=fun (k:zdt β) k1=>zGA L hL b hs.h.s (by omega) [] (zt b.T) b.T.length a src k k1
    simp only [XZ] at hl
    rw [if_neg h',yb (by show 0+3≤3; omega),hl,zx5 b a src h h']
    cases hr:(zfc b.salt b.H a src).2 with
    | true=>rw [if_pos rfl,yb rfl,zel,zel,b.vx]
    | false=>
     have e1:(zfc b.salt b.H a src).1=b.H:=by
      unfold zfc at hr ⊢
      split at hr
      ·split at hr
       ·rename_i c1 c2; rw [if_pos c1,if_pos c2]
       ·cases hr
      ·cases hr
     rw [if_neg (by simp),yb rfl,zel,zel,b.vx,e1]
theorem zI0(L:Nat)(hL:200000<L)(k:Bool→Option β):xe β (L+100) k=k true:=by
 have h0:zg8 bk0=true:=(zeV bk0).2 (zDV (We 32 0) (by simp))
 have e0:zec bk0 ⟨327680,8,3⟩ 7=(⟨We 32 0,[⟨hbk (We 32 0) ⟨327680,8,3⟩ 7,⟨327680,8,3⟩,7⟩],[],by rfl⟩,true):=rfl
 have h1:SndB (zec bk0 ⟨327680,8,3⟩ 7).1:=zsK ((zeV bk0).1 h0) _ _
 rw [e0] at h1
 have e1:∀ v:Int,zec ⟨We 32 0,[⟨v,⟨327680,8,3⟩,7⟩],[],by rfl⟩ ⟨327680,8,9⟩ 8=(⟨We 32 0,[⟨v,⟨327680,8,9⟩,7⟩],[],by rfl⟩,false):=fun v=>rfl
 unfold xe zrO
 have ea:∀ t:Int,[(Qc (327680:Int)),(Qb (8:Int)),(Qc t)]=(⟨327680,8,t⟩:Adr).v:=fun t=>rfl
 have es:xg (⟨327680,8,3⟩:Adr).v 2 [(Qc (9:Int))]=(⟨327680,8,9⟩:Adr).v:=rfl
 generalize hbk (We 32 0) ⟨327680,8,3⟩ 7=v at e0 h1
 rw [ym,ea,yb (by show 0+3≤3; omega),zcr,zEq,zwh L hL bk0 (by simp [bk0]) (by simp [bk0]),if_pos h0,e0,yb ⟨Bk.len _,by omega⟩,z34 _ (by simp),ym,yb (by show 1=1∧2+1≤3; omega),ym,es,yb (by rw [Bk.len]; omega),yb (by show 0+3≤3; omega),Bk.take,Bk.dem,zcr,zwh L hL _ (by simp) (by simp),if_pos ((zeV _).2 h1),e1,yb ⟨Bk.len _,by omega⟩,z34 _ (by simp),ym,zda,if_pos rfl,zda,if_pos rfl,zlx,Bool.not_false,zlx,zcy (Bk.g32 _)]
 rw [zcy (Bk.g32 _)]
 rw [show ((((xG [(⟨v,⟨327680,8,9⟩,7⟩:Plc)]).length:Nat):Int)==1)=true from rfl,zlx,zyJ (j:=0) (c:=(⟨v,⟨327680,8,9⟩,7⟩:Plc).v) (by decide) rfl,zE (n:=9) rfl,zda,if_pos rfl,zcy (Bk.g32 _),zyJ (j:=0) (c:=(⟨v,⟨327680,8,9⟩,7⟩:Plc).v) (by decide) rfl,zE (n:=7) rfl,zda,if_pos rfl,yb (by show 0+3≤3; omega),zsj]
 rfl
end
section
set_option maxRecDepth 100000
variable {β:Type}
theorem zIB(L:Nat)(es:List (List V))(k:List (List V)→Int→Option β):xf β L es k=k es 0:=by
 simp only [xf,zu1,ym]
end
section
theorem zEf:∀ (vs:List Int) (l:List Plc),(∀ e∈l,e.b∈vs)→(∀ v,zaK v l≤8)→l.length≤8*vs.length
 | [],l,h,_=>by
  cases l with
  | nil=>simp
  | cons e l=>exact absurd (h e (by simp)) (by simp)
 | v::vs,l,h,hc=>by
  have ih:=zEf vs (l.filter (fun x=>!(x.b==v))) (fun e he=>by
   have h1:=QY.1 he
   rcases Q7.1 (h e h1.1) with h2 | h2
   ·have h3:=h1.2; simp [h2] at h3
   ·exact h2) (fun w=>QD (zlI X9 w) (hc w))
  have hlen:l.length=zaK v l+(l.filter (fun x=>!(x.b==v))).length:=by
   unfold zaK
   clear ih hc h
   induction l with
   | nil=>rfl
   | cons x l ihl=>
    by_cases hx:x.b=v
    ·simp [hx]; omega
    ·simp [hx]; omega
  have:=hc v
  simp only [XY]
  omega
def img(s:List Int)(m2:Int→List Int):List Int:=[0,1,2,3].map fun x=>QF .i64 (XM (zkn (zw0 s) (zv1 s) (m2 x)) 64)
theorem zHD(s m1:List Int)(m2:Int→List Int):bkt s m1 m2∈img s m2:=by
 have h0:0≤zkn (zw0 s) (zv1 s) m1:=by unfold zkn zCo zzz zbf; exact (zzl _).1
 have h1:=Int.tmod_nonneg 4 h0
 have h2:=Ya (zkn (zw0 s) (zv1 s) m1) (show (0:Int)<4 by decide)
 unfold bkt
 generalize XM (zkn (zw0 s) (zv1 s) m1) 4=x at h1 h2
 rw [zGB h1 (by omega)]
 unfold img
 have:x=0∨x=1∨x=2∨x=3:=by omega
 rcases this with rfl | rfl | rfl | rfl <;> simp
theorem zIa(s:List Int)(a:Adr)(g:Int)(h:grp a=g):tbk s a∈img s (fun x=>[3]++le4 (w64 g)++le4 (w64 x)):=by
 subst h; unfold tbk; exact zHD _ _ _
def zAz(g:Int):List Plc→Nat
 | []=>0
 | e::l=>(if grp e.a=g then 1 else 0)+zAz g l
theorem zxT(g:Int):∀ l:List Plc,zAz g l=(l.filter (fun e=>grp e.a==g)).length
 | []=>rfl
 | e::l=>by
  rw [zAz,zxT g l]
  by_cases h:grp e.a=g
  ·simp [h]; omega
  ·simp [h]
theorem zH1{b:Bk}(h:SndB b)(g:Int):zAz g b.T≤32:=by
 rw [zxT]
 refine zEf (img b.salt (fun x=>[3]++le4 (w64 g)++le4 (w64 x))) _ (fun e he=>?_) (fun v=>QD (zlI X9 v) (h.t.c v))
 have h1:=QY.1 he
 rw [h.t.b e h1.1,zDL]
 exact zIa _ _ _ (by simpa using h1.2)
def zJB(src:Int)(l:List Plc):Nat:=(l.filter (fun e=>e.s==src)).length
end
section
set_option maxRecDepth 100000
variable {β:Type}
theorem zEh(L:Nat)(ps:List Plc)(hp:ps.length≤1000000)(a:Adr)(kr:Int→List V→Option β)(kx:List V→Option β)(k:Int→List V→Option β)(hr:∀ i c,kr i c=k i c)(hx:∀ c,kx c=k (-1) c):∀ (m i:Nat),i≤ps.length→ps.length-i<m →
  z4 ze L kr kx m (xG ps) ((ps.length:Nat):Int) (i:Int) a.v=k (zbZ (fun e=>yz e.a a) (ps.drop i) i) a.v:=by
 intro m
 induction m with
 | zero=>intro i h1 h2; omega
 | succ m IH=>
  intro i h1 h2
  unfold z4 zbo
  by_cases h:i<ps.length
  ·have ih:=IH (i+1) (by omega) (by omega)
   rw [zap (by omega),zcc (zcg h),zk9,zBu,yb rfl,WP h,zbZ,ym,yT (by omega)]
   cases yz ps[i].a a with
   | true=>exact hr _ _
   | false=>exact ih
  ·rw [zaD (by omega),WI (by omega),hx]; rfl
theorem zBs(L:Nat)(ps:List Plc)(hp:ps.length≤1000000)(hL:ps.length<L)(a:Adr)(k:Int→Option β):yQ β L (xG ps) a.v k=k (zbZ (fun e=>yz e.a a) ps 0):=by
 unfold yQ zk3 zn zaN zb0
 rw [show ((0:Int))=((0:Nat):Int) from rfl,yP]
 refine (zEh L ps hp a _ _ (fun v0 v1=>chk ([(XG v1)]=[(XG a.v)]) (k v0)) (fun _ _=>rfl) (fun _=>rfl) L 0 (by omega) (by omega)).trans ?_
 rw [yb rfl]; rfl
theorem zE0(L:Nat)(b:Bk)(hH:b.H.length≤1000000)(z:Nat)(hz:z≤b.H.length)(zs p:List V)(src v:Int)(T:List (List V))(kx:ziw β):∀ (m i c:Nat),i≤z→z-i<m→c<b.H.length →
  zbI zc xd ya za L kx m src v (z:Int) (c:Int) (i:Int) (zt b.H++zs) (b.salt.getD 0 0) (b.salt.getD 1 0) (b.salt.getD 2 0) (b.salt.getD 3 0) (b.salt.getD 4 0) (b.salt.getD 5 0) (b.salt.getD 6 0) (b.salt.getD 7 0) (b.salt.getD 8 0) (b.salt.getD 9 0) (b.salt.getD 10 0) (b.salt.getD 11 0) (b.salt.getD 12 0) (b.salt.getD 13 0) (b.salt.getD 14 0) (b.salt.getD 15 0) (b.salt.getD 16 0) (b.salt.getD 17 0) (b.salt.getD 18 0) (b.salt.getD 19 0) (b.salt.getD 20 0) (b.salt.getD 21 0) (b.salt.getD 22 0) (b.salt.getD 23 0) (b.salt.getD 24 0) (b.salt.getD 25 0) (b.salt.getD 26 0) (b.salt.getD 27 0) (b.salt.getD 28 0) (b.salt.getD 29 0) (b.salt.getD 30 0) (b.salt.getD 31 0) b.H.length T p 0 0 0 0 0 0 0 0 0 0 0 0 0 0 0 0 0 0 0 0 0 0 0 0 0 0 0 0 0 0 0 0 [] []
   = kx src v (z:Int) ((zcs b.H (z-i) i c:Nat):Int) (zt b.H++zs) (b.salt.getD 0 0) (b.salt.getD 1 0) (b.salt.getD 2 0) (b.salt.getD 3 0) (b.salt.getD 4 0) (b.salt.getD 5 0) (b.salt.getD 6 0) (b.salt.getD 7 0) (b.salt.getD 8 0) (b.salt.getD 9 0) (b.salt.getD 10 0) (b.salt.getD 11 0) (b.salt.getD 12 0) (b.salt.getD 13 0) (b.salt.getD 14 0) (b.salt.getD 15 0) (b.salt.getD 16 0) (b.salt.getD 17 0) (b.salt.getD 18 0) (b.salt.getD 19 0) (b.salt.getD 20 0) (b.salt.getD 21 0) (b.salt.getD 22 0) (b.salt.getD 23 0) (b.salt.getD 24 0) (b.salt.getD 25 0) (b.salt.getD 26 0) (b.salt.getD 27 0) (b.salt.getD 28 0) (b.salt.getD 29 0) (b.salt.getD 30 0) (b.salt.getD 31 0) b.H.length T p 0 0 0 0 0 0 0 0 0 0 0 0 0 0 0 0 0 0 0 0 0 0 0 0 0 0 0 0 0 0 0 0 [] []:=by
 intro m
 induction m with
 | zero=>intro i c h1 h2 h3; omega
 | succ m IH=>
  intro i c h1 h2 h3
  unfold zbI zes
  by_cases h:i<z
  ·have hi:i<b.H.length:=by omega
   rw [zap (by omega),yb (by omega),at3,zAn hi,yb (by omega),at3,zAn h3,zag,show z-i=(z-(i+1))+1 by omega,zcs,zhl hi,zhl h3]
   by_cases ht:b.H[i].a.t<b.H[c].a.t
   ·rw [if_pos ht,if_pos ht,ym,yT (by omega)]
    exact IH (i+1) i (by omega) (by omega) hi
   ·rw [if_neg ht,if_neg ht,ym,yT (by omega)]
    exact IH (i+1) c (by omega) (by omega) h3
  ·rw [zaD (by omega),show z-i=0 by omega]; rfl
theorem zFn(L:Nat)(hL:200000<L)(b:Bk)(hs:Srt b.H)(hH:b.H.length≤100000)(z:List V)(T:List (List V))(a:Adr)(src:Int)(k:zcv β)(k1:zd7 β) :
  xN β (L+100) (b.salt.getD 0 0) (b.salt.getD 1 0) (b.salt.getD 2 0) (b.salt.getD 3 0) (b.salt.getD 4 0) (b.salt.getD 5 0) (b.salt.getD 6 0) (b.salt.getD 7 0) (b.salt.getD 8 0) (b.salt.getD 9 0) (b.salt.getD 10 0) (b.salt.getD 11 0) (b.salt.getD 12 0) (b.salt.getD 13 0) (b.salt.getD 14 0) (b.salt.getD 15 0) (b.salt.getD 16 0) (b.salt.getD 17 0) (b.salt.getD 18 0) (b.salt.getD 19 0) (b.salt.getD 20 0) (b.salt.getD 21 0) (b.salt.getD 22 0) (b.salt.getD 23 0) (b.salt.getD 24 0) (b.salt.getD 25 0) (b.salt.getD 26 0) (b.salt.getD 27 0) (b.salt.getD 28 0) (b.salt.getD 29 0) (b.salt.getD 30 0) (b.salt.getD 31 0) b.H.length T a.v src (zt b.H++z) k k1=if (zfc b.salt b.H a src).2=true then k (b.salt.getD 0 0) (b.salt.getD 1 0) (b.salt.getD 2 0) (b.salt.getD 3 0) (b.salt.getD 4 0) (b.salt.getD 5 0) (b.salt.getD 6 0) (b.salt.getD 7 0) (b.salt.getD 8 0) (b.salt.getD 9 0) (b.salt.getD 10 0) (b.salt.getD 11 0) (b.salt.getD 12 0) (b.salt.getD 13 0) (b.salt.getD 14 0) (b.salt.getD 15 0) (b.salt.getD 16 0) (b.salt.getD 17 0) (b.salt.getD 18 0) (b.salt.getD 19 0) (b.salt.getD 20 0) (b.salt.getD 21 0) (b.salt.getD 22 0) (b.salt.getD 23 0) (b.salt.getD 24 0) (b.salt.getD 25 0) (b.salt.getD 26 0) (b.salt.getD 27 0) (b.salt.getD 28 0) (b.salt.getD 29 0) (b.salt.getD 30 0) (b.salt.getD 31 0) (zfc b.salt b.H a src).1.length T true (zt b.H++z).length (zt (zfc b.salt b.H a src).1) else k1 (b.salt.getD 0 0) (b.salt.getD 1 0) (b.salt.getD 2 0) (b.salt.getD 3 0) (b.salt.getD 4 0) (b.salt.getD 5 0) (b.salt.getD 6 0) (b.salt.getD 7 0) (b.salt.getD 8 0) (b.salt.getD 9 0) (b.salt.getD 10 0) (b.salt.getD 11 0) (b.salt.getD 12 0) (b.salt.getD 13 0) (b.salt.getD 14 0) (b.salt.getD 15 0) (b.salt.getD 16 0) (b.salt.getD 17 0) (b.salt.getD 18 0) (b.salt.getD 19 0) (b.salt.getD 20 0) (b.salt.getD 21 0) (b.salt.getD 22 0) (b.salt.getD 23 0) (b.salt.getD 24 0) (b.salt.getD 25 0) (b.salt.getD 26 0) (b.salt.getD 27 0) (b.salt.getD 28 0) (b.salt.getD 29 0) (b.salt.getD 30 0) (b.salt.getD 31 0) b.H.length T false (zt b.H++z):=by
 unfold xN zgI zjL
 rw [yb (by show 0+3≤3; omega),zcr,b.cells,zEr L b.salt b.hs]
 unfold zfc
 generalize hbk b.salt a src=v
 have hr:=zj6 b.H v
 rw [zuU _ b.H (by omega) (by omega),yb rfl,ym,zZ (by omega) (by omega),zag]
 by_cases h8:toN b.H v-xv b.H v≥8
 ·obtain ⟨n,hn⟩:∃ n,toN b.H v-xv b.H v=n+1:=⟨toN b.H v-xv b.H v-1,by omega⟩
  rw [if_pos (by omega),if_pos h8,ym,yT (by omega)]
  refine (zE0 (L+100) b (by omega) (toN b.H v) hr.2 z a.v src v T _ (L+100) (xv b.H v+1) (xv b.H v) (by omega) (by omega) (by omega)).trans ?_
  have hm:=ziy b.H (xv b.H v) (toN b.H v) (toN b.H v-xv b.H v) (xv b.H v) (xv b.H v) (Wq _) (by omega) (Wq _) (by omega)
  have he:zcs b.H (toN b.H v-(xv b.H v+1)) (xv b.H v+1) (xv b.H v)=zcs b.H (toN b.H v-xv b.H v) (xv b.H v) (xv b.H v):=by
   rw [hn,zFy]; congr 1; omega
  rw [he]
  generalize zcs b.H (toN b.H v-xv b.H v) (xv b.H v) (xv b.H v)=m at hm ⊢
  have hml:m<b.H.length:=by omega
  unfold zd1
  rw [yb (by omega),at3,zAn hml,zE (n:=a.t) rfl,zag,zhl hml]
  by_cases ht:b.H[m].a.t≥a.t
  ·rw [if_pos ht,if_pos ht,if_neg (by simp)]
  ·obtain ⟨z',hz',hdel⟩:=zw5 (L+100) b.H (by omega) z m hml
   have hrl:(xU b.H m).length=b.H.length-1:=by unfold xU; simp; omega
   have htr:=zCM hs hm.1 hm.2
   have hle:toN (xU b.H m) v≤(xU b.H m).length:=(zj6 _ v).2
   have hlen:(zt (xU b.H m)++z').length=(zt b.H++z).length:=by rw [zoI,zoI,hz',hrl]; omega
   rw [if_neg ht,if_neg ht,if_pos rfl,ym,yT (by omega),hdel,hlen,yb rfl,ym,show QF .i64 ((toN b.H v:Int)-1)=((toN b.H v-1:Nat):Int) by rw [zZ (by omega) (by omega)]; omega,yb (by show 0+3≤3; omega),zcr,yb ⟨rfl,by omega⟩,yb (by show 1=1∧4+1≤5; omega),yb ⟨rfl,by omega⟩,zCY,fl1,← htr,zrk _ _ (by omega) z' _ hle,hlen,yb rfl,yP]
   rfl
 ·rw [if_neg (by omega),if_neg h8,if_pos rfl,yb (by show 0+3≤3; omega),yb ⟨rfl,by omega⟩,yb (by show 1=1∧4+1≤5; omega),yb ⟨rfl,by omega⟩,zCY,fl1,zrk _ _ (by omega) z _ hr.2,yb rfl,yP]
  rfl
end
end Go.Proofs.Ytbimgceighecgaa
