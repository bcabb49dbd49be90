/- Part 14 of the proof of AddrbookMoves: an abstract machine over plain values, its soundness, and the functions of the program on plain values. -/
import Derived.Test.YtbimgceighecgaaMAddrbookMoves13
namespace Go.Proofs.Ytbimgceighecgaa
set_option linter.unusedVariables false
set_option linter.unusedSimpArgs false
open IntKind renaming wrap->QF
open List renaming drop_eq_getElem_cons->WP,getElem?_eq_getElem->Wb,drop_of_length_le->WI,take->XK,take_succ_eq_append_getElem->XR,length_take->Ww,drop->XL,pairwise_append->Xr,take_of_length_le->Xu,mem_take_iff_getElem->XU,nil_append->XD,filter_append->XV,takeWhile_cons->XW,all_eq_true->QN,length_append->Wm,mem_append->QC,getElem_mem->W1,drop_zero->X0,filter_eq_nil_iff->X3,pairwise_iff_getElem->X4,pairwise_cons->Xs,replicate->We,any_eq_false->X6,pairwise_map->X7,length->XI,take_append_drop->X8,length_cons->X9,append_nil->Ya,drop_append_of_le_length->Xv,takeWhile_append_of_pos->Yb,getElem_append_right->Yc,getElem?_append_left->Wv,map_cons->QV,append_assoc->Wu,getElem_append_left->Yd,getElem?_take_of_lt->Ye,map_nil->Yg,take_left'->Yh,drop_left'->Yi,takeWhile_sublist->Yj,head?_drop->Yk,length_filter_le->Yl,take_zero->Yn,mem_append_left->Xc,replicate_zero->Yo,filter_eq_self->Xf,mem_map->Xl
open Bool renaming true_and->XS,and_eq_true->Wg,false_and->Xo,not_eq_true'->Q8,not_true->Xg,not_eq_true->Yf,and_assoc->Ym,false_eq_true->WO
open Nat renaming zero_add->WB,le_refl->Wq,reduceLeDiff->XX,reduceAdd->XY,reduceMul->XZ,sub_zero->X5,le_trans->QD
open Int renaming toNat_natCast->XT,tmod->XP,toNat->XJ,le_refl->Yp
open Prod.mk renaming injEq->QL
open Option renaming getD->XO
section
set_option maxRecDepth 100000
variable {β:Type}
def zkM(m:Int)(i:Nat):List Int→Int
 | []=>m
 | b::bs=>zkM (ior .u64 m (zuk .u64 (QF .u64 b) (QF .i64 (8*(i:Int))))) (i+1) bs
theorem zwa(L:Nat)(kx:Int→Option β)(l:List Int)(hl:l.length≤1000000):∀ (n:Nat) (m:Int) (i:Nat),i≤l.length→l.length-i<n→zhr L kx n m (za6 .u8 l) (l.length:Int) (i:Int)=kx (zkM m i (l.drop i))
 | 0,m,i,hi,hn=>by omega
 | n+1,m,i,hi,hn=>by
  simp only [zhr,zoi,yi]
  by_cases h:i<l.length
  ·rw [zaE (by omega),za4 (zzJ _ h),xF (by rfl),xa (by rw [zX (by omega) (by omega)]; omega)]
   rw [show QF .i64 ((i:Int)+1)=((i+1:Nat):Int) by rw [zX (by omega) (by omega)]; omega]
   rw [zwa L kx l hl n _ (i+1) (by omega) (by omega),WP h]
   rfl
  ·rw [zaO (by omega),WI (by omega)]
   rfl
theorem zvK(L:Nat)(l:List Int)(hl:l.length≤1000000)(hL:l.length<L)(k:Int→Option β):xu β L (za6 .u8 l) k=k (zkM 0 0 l):=by
 simp only [xu,zrQ,zvZ,zfy]
 exact zwa L _ l hl L 0 0 (by omega) (by omega)
theorem zwm(L:Nat)(kx:Int→Option β)(l:List Int)(hl:l.length≤1000000):∀ (n:Nat) (m:Int) (i:Nat),i≤l.length→l.length-i<n→zfL L kx n (za6 .u8 l) m (l.length:Int) (i:Int)=kx (zkM m i (l.drop i))
 | 0,m,i,hi,hn=>by omega
 | n+1,m,i,hi,hn=>by
  simp only [zfL,zmc,yi]
  by_cases h:i<l.length
  ·rw [zaE (by omega),za4 (zzJ _ h),xF (by rfl),xa (by rw [zX (by omega) (by omega)]; omega)]
   rw [show QF .i64 ((i:Int)+1)=((i+1:Nat):Int) by rw [zX (by omega) (by omega)]; omega]
   rw [zwm L kx l hl n _ (i+1) (by omega) (by omega),WP h]
   rfl
  ·rw [zaO (by omega),WI (by omega)]
   rfl
theorem zvp(L:Nat)(l:List Int)(hl:l.length≤1000000)(hL:l.length<L)(k:Int→Option β):xm β L (za6 .u8 l) k=k (zkM 0 0 l):=by
 simp only [xm,zo0,zr8,zfy]
 exact zwm L _ l hl L 0 0 (by omega) (by omega)
theorem zAK(L:Nat)(hL:8<L)(l:List Int)(h:l.length=32)(k:List V→Option β):zae β L (row .u8 l) k=k (row .u64 [zkM 0 0 (l.take 8),zkM 0 0 ((l.drop 8).take 8)])∧zT β L (row .u8 l) k=k (row .u64 [zkM 0 0 (l.take 8),zkM 0 0 ((l.drop 8).take 8)]):=by
 obtain ⟨x,l',rfl⟩:∃ x l',l=x::l':=by
  cases l with
  | nil=>simp at h
  | cons x l'=>exact ⟨x,l',rfl⟩
 have e:(V.sc (.int .u8 x)::row .u8 l')=row .u8 (x::l'):=rfl
 have el:∀ (A:Option β) (B:V→List V→Option β),lc (row .u8 (x::l')) A B=B (Qa x) (row .u8 l'):=fun _ _=>rfl
 constructor
 ·simp only [zae,zxJ,yi,el,e,zbo,h,zEx]
  rw [xa (by decide),zoS _ _ _ (by omega),zvK _ _ (by simp; omega) (by simp; omega),xa (by decide),zoS _ _ _ (by simp at h ⊢; omega),zvK _ _ (by simp; omega) (by simp; omega),xa (by simp)]
  rfl
 ·simp only [zT,ztO,yi,el,e,zbo,h,zEx]
  rw [xa (by decide),zoS _ _ _ (by omega),zvp _ _ (by simp; omega) (by simp; omega),xa (by decide),zoS _ _ _ (by simp at h ⊢; omega),zvp _ _ (by simp; omega) (by simp; omega),xa (by simp)]
  rfl
end
section
set_option maxRecDepth 100000
variable {β:Type}
theorem zqJ{inst:Decidable ((4:Nat)≠0)}(k:Option β):@chk β ((4:Nat)≠0) inst k=k:=xa (by omega) k
structure S4 where
 a:Int
 b:Int
 c:Int
 d:Int
def S4.row(s:S4):List V:=[.sc (.int .u64 s.a),.sc (.int .u64 s.b),.sc (.int .u64 s.c),.sc (.int .u64 s.d)]
def zsx(x n:Int):Int:=ior .u64 (zuk .u64 x (zHY .u64 (QF .u64 n) 63)) (zpT .u64 x (QF .u64 (64-zHY .u64 (QF .u64 n) 63)))
theorem zIU(L:Nat)(x:Int)(k:Int→Option β):zc β L x 13 k=k (zsx x 13):=by kernel_rfl
theorem zIS(L:Nat)(x:Int)(k:Int→Option β):zc β L x 32 k=k (zsx x 32):=by kernel_rfl
theorem zIV(L:Nat)(x:Int)(k:Int→Option β):zc β L x 16 k=k (zsx x 16):=by kernel_rfl
theorem zIZ(L:Nat)(x:Int)(k:Int→Option β):zc β L x 21 k=k (zsx x 21):=by kernel_rfl
theorem zI4(L:Nat)(x:Int)(k:Int→Option β):zc β L x 17 k=k (zsx x 17):=by kernel_rfl
def r1(s:S4):S4:=⟨QF .u64 (s.a+s.b),s.b,s.c,s.d⟩
def r2(s:S4):S4:=⟨s.a,zbs .u64 (zsx s.b 13) s.a,s.c,s.d⟩
def r3(s:S4):S4:=⟨zsx s.a 32,s.b,s.c,s.d⟩
def r4(s:S4):S4:=⟨s.a,s.b,QF .u64 (s.c+s.d),s.d⟩
def r5(s:S4):S4:=⟨s.a,s.b,s.c,zbs .u64 (zsx s.d 16) s.c⟩
def r6(s:S4):S4:=⟨QF .u64 (s.a+s.d),s.b,s.c,s.d⟩
def r7(s:S4):S4:=⟨s.a,s.b,s.c,zbs .u64 (zsx s.d 21) s.a⟩
def r8(s:S4):S4:=⟨s.a,s.b,QF .u64 (s.c+s.b),s.d⟩
def r9(s:S4):S4:=⟨s.a,zbs .u64 (zsx s.b 17) s.c,s.c,s.d⟩
def r10(s:S4):S4:=⟨s.a,s.b,zsx s.c 32,s.d⟩
def rnd(s:S4):S4:=r10 (r9 (r8 (r7 (r6 (r5 (r4 (r3 (r2 (r1 s)))))))))
theorem c0(s:S4)(k:Int→Option β):cI .u64 s.row 0 k=k s.a:=by cases s; rfl
theorem c1(s:S4)(k:Int→Option β):cI .u64 s.row 1 k=k s.b:=by cases s; rfl
theorem c2(s:S4)(k:Int→Option β):cI .u64 s.row 2 k=k s.c:=by cases s; rfl
theorem c3(s:S4)(k:Int→Option β):cI .u64 s.row 3 k=k s.d:=by cases s; rfl
theorem zGo(s:S4)(x:Int):xd s.row 0 [.sc (.int .u64 x)]=S4.row ⟨x,s.b,s.c,s.d⟩:=by cases s; rfl
theorem zJ8(s:S4)(x:Int):xd s.row 1 [.sc (.int .u64 x)]=S4.row ⟨s.a,x,s.c,s.d⟩:=by cases s; rfl
theorem zFI(s:S4)(x:Int):xd s.row 2 [.sc (.int .u64 x)]=S4.row ⟨s.a,s.b,x,s.d⟩:=by cases s; rfl
theorem zFN(s:S4)(x:Int):xd s.row 3 [.sc (.int .u64 x)]=S4.row ⟨s.a,s.b,s.c,x⟩:=by cases s; rfl
theorem zsH(s t:S4):xd s.row 0 t.row=t.row:=by cases s; cases t; rfl
theorem zFV(z0 z1 z2 z3:Int)(t:S4):xd [V.sc (.int .u64 z0),V.sc (.int .u64 z1),V.sc (.int .u64 z2),V.sc (.int .u64 z3)] 0 t.row=t.row:=by cases t; rfl
theorem znc(s:S4):s.row.length=4:=by cases s; rfl
theorem zoc(s:S4):s.row.take 4=s.row:=by cases s; rfl
theorem zCs(L:Nat)(s:S4)(k:List V→Option β):xj β L s.row k=k (rnd s).row:=by
 simp only [xj,zq1,yi,c0,c1,c2,c3,zGo,zJ8,zFI,zFN,zIU,zIS,zIV,zIZ,zI4,znc,zoc,zFV]
 repeat rw [xa (by decide)]
 rfl
theorem zHh(L:Nat)(p5 p6:Int)(s:S4)(z0 z1 z2 z3:Int)(kh:Int→Int→List V→Int→Int→Int→Int→Option β)(kx:List V→Int→Int→Int→Int→Option β)(h:p6<p5):zgs zc L p5 p6 s.row z0 z1 z2 z3 kh kx=kh p5 (QF .i64 (p6+1)) (rnd s).row z0 z1 z2 z3:=by
 simp only [zgs,yi,c0,c1,c2,c3,zGo,zJ8,zFI,zFN,zIU,zIS,zIV,zIZ,zI4,znc,zqJ,zji,true_and,and_true,and_self,XY,XZ,XX,Wq,WB]
 rw [zaE h]
 simp only [rnd,r1,r2,r3,r4,r5,r6,r7,r8,r9,r10]
def zB4:Nat→S4→S4
 | 0,s=>s
 | n+1,s=>zB4 n (rnd s)
theorem ztt(L:Nat)(kx:List V→Int→Int→Int→Int→Option β)(z0 z1 z2 z3:Int)(m:Nat)(hm:m≤1000):∀ (n i:Nat) (s:S4),i≤m→m-i<n→zgj zc L kx n (m:Int) (i:Int) s.row z0 z1 z2 z3=kx (zB4 (m-i) s).row z0 z1 z2 z3
 | 0,i,s,hi,hn=>by omega
 | n+1,i,s,hi,hn=>by
  simp only [zgj]
  by_cases h:i<m
  ·rw [zHh _ _ _ _ _ _ _ _ _ _ (by omega)]
   rw [show QF .i64 ((i:Int)+1)=((i+1:Nat):Int) by rw [zX (by omega) (by omega)]; omega]
   rw [ztt L kx z0 z1 z2 z3 m hm n (i+1) _ (by omega) (by omega),show m-i=(m-(i+1))+1 by omega]
   rfl
  ·simp only [zgs]
   rw [zaO (by omega),show m-i=0 by omega]
   rfl
theorem zAB(L:Nat)(s:S4)(m:Nat)(hm:m≤1000)(hL:m<L)(k:List V→Option β):zo β L s.row (m:Int) k=k (zB4 m s).row:=by
 simp only [zo,zo7,zsE]
 rw [show (0:Int)=((0:Nat):Int) from rfl,ztt L _ _ _ _ _ m hm L 0 s (by omega) (by omega)]
 simp only [zlh,yi,znc,zoc,X5,zFV,zqJ,zji,true_and,and_true,and_self,XY,XZ,XX,Wq,WB]
def zst(s:S4)(m:Int):S4:=⟨zbs .u64 (rnd (rnd ⟨s.a,s.b,s.c,zbs .u64 s.d m⟩)).a m,(rnd (rnd ⟨s.a,s.b,s.c,zbs .u64 s.d m⟩)).b,(rnd (rnd ⟨s.a,s.b,s.c,zbs .u64 s.d m⟩)).c,(rnd (rnd ⟨s.a,s.b,s.c,zbs .u64 s.d m⟩)).d⟩
theorem zz2(L:Nat)(hL:2<L)(s:S4)(m:Int)(k:List V→Option β):yx β L s.row m k=k (zst s m).row:=by
 simp only [yx,zsz,yi,c3,zFN,znc,zoc,zqJ,zji,true_and,and_true,and_self,XY,XZ,XX,Wq,WB]
 rw [show (2:Int)=((2:Nat):Int) from rfl,zAB L _ 2 (by omega) hL]
 simp only [znc,zsH,c0,zGo,zoc,zFV,zB4,zst,zqJ,zji,true_and,and_true,and_self,XY,XZ,XX,Wq,WB]
theorem zBe(L:Nat)(s:S4)(m:Int)(k:List V→Option β):yq β L s.row m k=k (zst s m).row:=by
 simp only [yq,zp0,yi,c3,zFN,znc,zoc,zCs,zsH,c0,zGo,zFV,zst,zqJ,zji,true_and,and_true,and_self,XY,XZ,XX,Wq,WB]
def zsS:Nat→S4→List Int→S4
 | 0,s,_=>s
 | n+1,s,l=>zsS n (zst s (zkM 0 0 (l.take 8))) (l.drop 8)
def zFW(s:S4)(n:Int)(l:List Int):S4:=zst s (ior .u64 (zkM 0 0 l) (zuk .u64 (QF .u64 (XP n 256)) 56))
def zF4(s:S4):S4:=zB4 4 ⟨s.a,s.b,zbs .u64 s.c 255,s.d⟩
def zDC(s:S4):Int:=zbs .u64 (zbs .u64 (zbs .u64 s.a s.b) s.c) s.d
def zFJ(s:S4)(n:Int)(l:List Int):Int:=zDC (zF4 (zFW s n l))
def zGy(x y:Int):S4:=⟨zbs .u64 x 8317987319222330741,zbs .u64 y 7237128888997146477,zbs .u64 x 7816392313619706465,zbs .u64 y 8387220255154660723⟩
def zrD(x y:Int)(l:List Int):Int:=zFJ (zsS (l.length / 8) (zGy x y) l) l.length (l.drop (l.length / 8*8))
theorem zxU(L:Nat)(hL:10<L)(l:List Int)(hl:l.length≤1000000)(kx:List (List V)→Int→List V→Option β)(p6:Int):∀ (n i:Nat) (s:S4),i≤l.length / 8→l.length / 8-i<n→zhv xu yx zo L kx n (za6 .u8 l) p6 ((l.length / 8:Nat):Int) (i:Int) s.row=kx (za6 .u8 l) p6 (zsS (l.length / 8-i) s (l.drop (8*i))).row
 | 0,i,s,hi,hn=>by omega
 | n+1,i,s,hi,hn=>by
  simp only [zhv,zoF,yi,znc,zoc,zfy]
  by_cases h:i<l.length / 8
  ·have e1:QF .i64 (8*(i:Int))=((8*i:Nat):Int):=by rw [zX (by omega) (by omega)]; omega
   have e2:QF .i64 (((8*i:Nat):Int)+8)=((8*i+8:Nat):Int):=by rw [zX (by omega) (by omega)]; omega
   have e3:QF .i64 ((i:Int)+1)=((i+1:Nat):Int):=by rw [zX (by omega) (by omega)]; omega
   rw [zaE (by omega),e1,e2,e3,xa (by decide),xa (by omega),xa (by simp; omega)]
   simp only [XT,zxC,zx1]
   rw [zvK _ _ (by simp; omega) (by simp; omega),zz2 _ (by omega)]
   simp only [znc,zsH]
   rw [xa (by decide),zxU L hL l hl kx p6 n (i+1) _ (by omega) (by omega),show l.length / 8-i=(l.length / 8-(i+1))+1 by omega,zsS,List.drop_drop]
   rw [show 8*i+8-8*i=8 by omega,show 8*(i+1)=8*i+8 by omega]
  ·rw [zaO (by omega),show l.length / 8-i=0 by omega]
   rfl
theorem zyo(L:Nat)(x y:Int)(l:List Int)(hl:l.length≤1000000)(hL:l.length+10<L)(k:Int→Option β):y5 β L (row .u64 [x,y]) (za6 .u8 l) k=k (zrD x y l):=by
 simp only [y5,ztm,zw5,yi,zfy]
 rw [xF (n:=x) (by rfl),xF (n:=y) (by rfl),xF (n:=x) (by rfl),xF (n:=y) (by rfl)]
 have e1:QF .i64 (Int.tdiv (l.length:Int) 8)=((l.length / 8:Nat):Int):=by
  rw [Int.tdiv_eq_ediv_of_nonneg (by omega),zX (by omega) (by omega)]; omega
 rw [e1,show (0:Int)=((0:Nat):Int) from rfl]
 have:=zxU (β:=β) L (by omega) l hl (fun p1 p6 b5=>zh9 xu yx zo L p1 p6 b5 k) ((l.length / 8:Nat):Int) L 0 (zGy x y) (by omega) (by omega)
 refine (show _=_ from this).trans ?_
 have e2:QF .i64 (8*((l.length / 8:Nat):Int))=((l.length / 8*8:Nat):Int):=by rw [zX (by omega) (by omega)]; omega
 simp only [zh9,yi,znc,zoc,zfy,X5,Nat.mul_zero,X0]
 rw [xa (by decide),e2,xa (by omega)]
 simp only [XT,zxC,zx1]
 rw [Xu (by simp),zvK _ _ (by simp; omega) (by simp; omega),zz2 _ (by omega)]
 simp only [znc,zsH,c2,zFI,zoc,zqJ,zji,true_and,and_true,and_self,XY,XZ,XX,Wq,WB]
 rw [show (4:Int)=((4:Nat):Int) from rfl,zAB _ _ 4 (by omega) (by omega)]
 simp only [znc,zsH,c0,c1,c2,c3,zrD,zFJ,zFW,zF4,zDC,zqJ,zji,true_and,and_true,and_self,XY,XZ,XX,Wq,WB]
theorem zGM(n:Nat):∀ (s:S4) (l:List Int),zsS (n+1) s l=zsS n (zst s (zkM 0 0 (l.take 8))) (l.drop 8):=fun _ _=>rfl
theorem zxD(L:Nat)(hL:10<L)(kx:List (List V)→Int→List V→Option β)(p6:Int):∀ (n:Nat) (l:List Int) (s:S4),l.length≤1000000→l.length / 8<n→zgE xm yq xj L kx n (za6 .u8 l) p6 s.row=kx (za6 .u8 (l.drop (l.length / 8*8))) p6 (zsS (l.length / 8) s l).row
 | 0,l,s,hl,hn=>by omega
 | n+1,l,s,hl,hn=>by
  simp only [zgE,znm,yi,znc,zoc,zfy]
  by_cases h:8≤l.length
  ·rw [zaE (by omega),xa (by decide),xa (by omega)]
   simp only [zxC,zx1,X0]
   rw [zvp _ _ (by simp; omega) (by simp; omega),zBe,xa (by omega)]
   simp only [znc,zsH]
   rw [xa (by decide),Xu (by simp),zxD L hL kx p6 n _ _ (by simp; omega) (by simp; omega)]
   have e:(l.drop 8).length / 8=l.length / 8-1:=by simp; omega
   rw [e,List.drop_drop,show 8+(l.length / 8-1)*8=l.length / 8*8 by omega]
   obtain ⟨q,hq⟩:∃ q,l.length / 8=q+1:=⟨l.length / 8-1,by omega⟩
   rw [hq,zGM]
   rfl
  ·have e:l.length / 8=0:=by omega
   rw [zaO (by omega),e]
   rfl
theorem zyg(L:Nat)(x y:Int)(l:List Int)(hl:l.length≤1000000)(hL:l.length+10<L)(k:Int→Option β):yP β L (row .u64 [x,y]) (za6 .u8 l) k=k (zrD x y l):=by
 simp only [yP,zqi,zuo,yi,zfy]
 rw [xF (n:=x) (by rfl),xF (n:=y) (by rfl),xF (n:=x) (by rfl),xF (n:=y) (by rfl)]
 have:=zxD (β:=β) L (by omega) (fun p1 p6 b5=>zhC xm yq xj L p1 p6 b5 k) (l.length:Int) L l (zGy x y) hl (by omega)
 refine (show _=_ from this).trans ?_
 simp only [zhC,yi,znc,zoc]
 rw [xa (by decide),zvp _ _ (by simp; omega) (by simp; omega)]
 simp only [zBe,znc,zsH,c2,zFI,zoc,zCs,c0,c1,c3,zrD,zFJ,zFW,zF4,zDC,zB4,zqJ,zji,true_and,and_true,and_self,XY,XZ,XX,Wq,WB]
end
section
set_option maxRecDepth 100000
variable {β:Type}
def le4(x:Int):List Int:=[QF .u8 (zpT .u64 x 0),QF .u8 (zpT .u64 x 8),QF .u8 (zpT .u64 x 16),QF .u8 (zpT .u64 x 24)]
def le2(x:Int):List Int:=[QF .u8 (zpT .u64 x 0),QF .u8 (zpT .u64 x 8)]
theorem zK4(L:Nat)(x:Int)(k:List (List V)→Option β):xI β (L+10) x 4 k=k (za6 .u8 (le4 x)):=by kernel_rfl
theorem zKS(L:Nat)(x:Int)(k:List (List V)→Option β):xI β (L+10) x 2 k=k (za6 .u8 (le2 x)):=by kernel_rfl
theorem zKL(L:Nat)(x:Int)(k:List (List V)→Option β):zI β (L+10) x 4 k=k (za6 .u8 (le4 x)):=by kernel_rfl
theorem zKZ(L:Nat)(x:Int)(k:List (List V)→Option β):zI β (L+10) x 2 k=k (za6 .u8 (le2 x)):=by kernel_rfl
theorem zGZ(L:Nat)(l m:List Int)(hl:l.length≤1000)(hm:m.length≤1000)(k:List (List V)→Option β):xH β L (za6 .u8 l) (za6 .u8 m) k=k (za6 .u8 (l++m)):=by
 simp only [xH,zpZ,yi,zfy,Yo,List.length_nil,WB,XD]
 rw [zX (by omega) (by omega),xa ⟨by omega,by omega,by simp only [yr]; omega,by simp only [yr]; omega⟩,xa ⟨by simp only [yr]; omega,by simp only [yr]; omega⟩,xa ⟨by simp only [yr]; omega,by simp only [yr]; omega⟩,zEu]
theorem zFk(L:Nat)(l m:List Int)(hl:l.length≤1000)(hm:m.length≤1000)(k:List (List V)→Option β):yI β L (za6 .u8 l) (za6 .u8 m) k=k (za6 .u8 (l++m)):=by
 simp only [yI,zp3,yi,zfy,Yo,List.length_nil,WB,XD]
 rw [zX (by omega) (by omega),xa ⟨by omega,by omega,by simp only [yr]; omega,by simp only [yr]; omega⟩,xa ⟨by simp only [yr]; omega,by simp only [yr]; omega⟩,xa ⟨by simp only [yr]; omega,by simp only [yr]; omega⟩,zEu]
def w64(x:Int):Int:=QF .u64 x
theorem zzT(L:Nat)(l:List Int)(hl:l.length≤900)(x:Int)(k:List (List V)→Option β):zw β (L+10) (za6 .u8 l) x k=k (za6 .u8 (l++le4 (w64 x))):=by
 simp only [zw,zmn,yi]
 rw [zK4,zGZ _ _ _ (by omega) (by simp [le4])]; rfl
theorem zKU(L:Nat)(l:List Int)(hl:l.length≤900)(x:Int)(k:List (List V)→Option β):xU β (L+10) (za6 .u8 l) x k=k (za6 .u8 (l++le2 (w64 x))):=by
 simp only [xU,zmb,yi]
 rw [zKS,zGZ _ _ _ (by omega) (by simp [le2])]; rfl
theorem zvN(L:Nat)(l:List Int)(hl:l.length≤900)(x:Int)(k:List (List V)→Option β):yw β (L+10) (za6 .u8 l) x k=k (za6 .u8 (l++le4 (w64 x))):=by
 simp only [yw,zme,yi]
 rw [zKL,zFk _ _ _ (by omega) (by simp [le4])]; rfl
theorem zKE(L:Nat)(l:List Int)(hl:l.length≤900)(x:Int)(k:List (List V)→Option β):zV β (L+10) (za6 .u8 l) x k=k (za6 .u8 (l++le2 (w64 x))):=by
 simp only [zV,zmr,yi]
 rw [zKZ,zFk _ _ _ (by omega) (by simp [le2])]; rfl
end
section
set_option maxRecDepth 100000
variable {β:Type}
def zF2(s:List Int):Int:=zkM 0 0 (s.take 8)
def zGi(s:List Int):Int:=zkM 0 0 ((s.drop 8).take 8)
def bkt(s:List Int)(m1:List Int)(m2:Int→List Int):Int:=
 QF .i64 (XP (zrD (zF2 s) (zGi s) (m2 (QF .u32 (XP (zrD (zF2 s) (zGi s) m1) 4)))) 64)
def hbk(s:List Int)(a:Adr)(src:Int):Int:=bkt s ([2]++le4 (w64 (grp a))++le4 (w64 src)) (fun x=>[1]++le4 (w64 src)++le4 (w64 x))
def tbk(s:List Int)(a:Adr):Int:=bkt s ([4]++le4 (w64 a.h)++le2 (w64 a.p)) (fun x=>[3]++le4 (w64 (grp a))++le4 (w64 x))
theorem zDH(n:Int):ye 1 1 [(Qa n)]=za6 .u8 [n]:=rfl
theorem zDD(x y:Int):xd [(Qd (0:Int)),(Qd (0:Int))] 0 (row .u64 [x,y])=row .u64 [x,y]:=rfl
theorem zAV(x y:Int):XK 2 (row .u64 [x,y])=row .u64 [x,y]:=rfl
theorem zbi(a:Adr):XK 3 a.v=a.v:=rfl
theorem zr0{s:List Int}(h:s.length=32):XK 32 (row .u8 s)=row .u8 s:=Xu (by rw [zbo,h]; exact Wq _)
theorem zF0(L:Nat)(s:List Int)(hs:s.length=32)(a:Adr)(src:Int)(k:Int→Option β):yb β (L+100) (row .u8 s) a.v src k=k (hbk s a src):=by
 simp only [yb,zhT,zr0 hs,zbi,yi,zDH]
 rw [xa (by rw [zbo,hs]; omega),(zAK (β:=β) (L+100) (by omega) s hs _).1,xa ⟨rfl,by omega⟩,zDD,xa (by show 0+2≤2; omega),xa (by show 0+3≤3; omega),zvr,show L+100=(L+90)+10 from rfl,zzT _ _ (by simp),zzT _ _ (by simp [le4]),zAV,zyo _ _ _ _ (by simp [le4]) (by simp [le4]),zzT _ _ (by simp),zzT _ _ (by simp [le4]),xa (by show 0+2≤2; omega),zyo _ _ _ _ (by simp [le4]) (by simp [le4])]
 rfl
theorem zIW(L:Nat)(s:List Int)(hs:s.length=32)(a:Adr)(src:Int)(k:Int→Option β):xb β (L+100) (row .u8 s) a.v src k=k (hbk s a src):=by
 simp only [xb,zjY,zr0 hs,zbi,yi,zDH]
 rw [xa (by rw [zbo,hs]; omega),(zAK (β:=β) (L+100) (by omega) s hs _).2,xa ⟨rfl,by omega⟩,zDD,xa (by show 0+2≤2; omega),xa (by show 0+3≤3; omega),zzO,show L+100=(L+90)+10 from rfl,zvN _ _ (by simp),zvN _ _ (by simp [le4]),zAV,zyg _ _ _ _ (by simp [le4]) (by simp [le4]),xa (by show 0+2≤2; omega),zvN _ _ (by simp),zvN _ _ (by simp [le4]),zyg _ _ _ _ (by simp [le4]) (by simp [le4])]
 rfl
theorem zI2(L:Nat)(s:List Int)(hs:s.length=32)(a:Adr)(k:Int→Option β):zq β (L+100) (row .u8 s) a.v k=k (tbk s a):=by
 simp only [zq,zh4,zr0 hs,zbi,yi,zDH]
 rw [xa (by rw [zbo,hs]; omega),(zAK (β:=β) (L+100) (by omega) s hs _).1,xa ⟨rfl,by omega⟩,zDD,xa (by show 0+2≤2; omega),xF (n:=a.h) rfl,show L+100=(L+90)+10 from rfl,zzT _ _ (by simp),xF (n:=a.p) rfl,zKU _ _ (by simp [le4]),zAV,zyo _ _ _ _ (by simp [le4,le2]) (by simp [le4,le2]),xa (by show 0+3≤3; omega),zvr,zzT _ _ (by simp),zzT _ _ (by simp [le4]),xa (by show 0+2≤2; omega),zyo _ _ _ _ (by simp [le4]) (by simp [le4])]
 rfl
theorem zGd(L:Nat)(s:List Int)(hs:s.length=32)(a:Adr)(k:Int→Option β):ze β (L+100) (row .u8 s) a.v k=k (tbk s a):=by
 simp only [ze,zj4,zr0 hs,zbi,yi,zDH]
 rw [xa (by rw [zbo,hs]; omega),(zAK (β:=β) (L+100) (by omega) s hs _).2,xa ⟨rfl,by omega⟩,zDD,xa (by show 0+2≤2; omega),xF (n:=a.h) rfl,show L+100=(L+90)+10 from rfl,zvN _ _ (by simp),xF (n:=a.p) rfl,zKE _ _ (by simp [le4]),zAV,zyg _ _ _ _ (by simp [le4,le2]) (by simp [le4,le2]),xa (by show 0+2≤2; omega),xa (by show 0+3≤3; omega),zzO,zvN _ _ (by simp),zvN _ _ (by simp [le4]),zyg _ _ _ _ (by simp [le4]) (by simp [le4])]
 rfl
end
section
variable {β:Type}
def xz(a b:Adr):Bool:=a.h==b.h&&a.p==b.p
theorem zFs(L:Nat)(a b:Adr)(k:Bool→Option β):zf β L a.v b.v k=k (xz a b):=by
 simp only [zf,zsG]
 rw [xF (n:=a.h) rfl,xF (n:=b.h) rfl,yX]
 by_cases h:a.h=b.h
 ·rw [if_pos h,xF (n:=a.p) rfl,xF (n:=b.p) rfl,xz,h]
  congr 1
  simp
 ·rw [if_neg h,xz,beq_eq_false_iff_ne.2 h]; rfl
theorem zCC(L:Nat)(ps:List Plc)(hp:ps.length≤1000000)(a:Adr)(k:Int→Option β):∀ (m i:Nat),i≤ps.length→ps.length-i<m →
  zgD zf L k (k (-1)) m (yF ps) (i:Int) a.v=k (zbw (fun e=>xz e.a a) (ps.drop i) i)
 | 0,i,h1,h2=>by omega
 | m+1,i,h1,h2=>by
  simp only [zgD,znq,yi,zK]
  by_cases h:i<ps.length
  ·have e1:XK 3 (XL 1 ps[i].v)=ps[i].a.v:=rfl
   rw [zaE (by omega),za4 (za1 h),xa (by show 0+3≤3; omega),e1,zbi,zFs,y4 (by omega),zCC L ps hp a k m (i+1) (by omega) (by omega),WP h,zbw]
   cases xz ps[i].a a <;> rfl
  ·rw [zaO (by omega),WI (by omega)]; rfl
theorem zrX(L:Nat)(ps:List Plc)(hp:ps.length≤1000000)(hL:ps.length<L)(a:Adr)(k:Int→Option β):xc β L (yF ps) a.v k=k (zbw (fun e=>xz e.a a) ps 0):=by
 simp only [xc,zo5,zsq]
 rw [show ((0:Int))=((0:Nat):Int) from rfl]
 exact zCC L ps hp a k L 0 (by omega) (by omega)
end
section
variable {β:Type}
def zra(l:List Plc)(i:Nat)(v:Int):Bool:=match l[i-8]? with
 | some e=>decide (8≤i)&&e.b==v
 | none=>false
def zmp(l:List Plc)(i:Nat)(v:Int):Bool:=match l[i-1]? with
 | some e=>decide (0<i)&&decide (e.b>v)
 | none=>false
def zqm(l:List Plc)(i:Nat):Bool:=match l[i]? with
 | some e=>zbw (fun x=>xz x.a e.a) l 0==(i:Int)
 | none=>true
def zqK(bk:Plc→Int)(l:List Plc)(i:Nat):Bool:=match l[i]? with
 | some e=>e.b==bk e&&!(zmp l i (bk e))&&!(zra l i (bk e))&&zqm l i
 | none=>true
def znP(p:Nat→Bool):Nat→Nat→Bool
 | _,0=>true
 | i,n+1=>p i&&znP p (i+1) n
def zfv(bk:Plc→Int)(l:List Plc):Bool:=decide (l.length≤512)&&znP (zqK bk l) 0 l.length
theorem zJH(L:Nat)(ps:List Plc)(hp:ps.length≤1000)(hL:ps.length<L)(i:Nat)(h:i<ps.length)(v:Int)(A:Option β)(K:Int→Option β) :
  (ifb (decide ((i:Int)≥(8:Int))) (
 lt (QF .i64 ((i:Int)-(8:Int))) fun x11=>
 idx (yF ps) x11 fun c12=>
 cI .i64 c12 0 fun v13=>
 ifb ((v13:Int)==v) A (
 idx (yF ps) (i:Int) fun c14=>
 xc β L (yF ps) (XK 3 (XL 1 c14)) (fun v15=>
 ifb ((v15:Int) != (i:Int)) A (
 lt (QF .i64 ((i:Int)+(1:Int))) fun x16=>
 K x16)))) (
 idx (yF ps) (i:Int) fun c17=>
 xc β L (yF ps) (XK 3 (XL 1 c17)) (fun v18=>
 ifb ((v18:Int) != (i:Int)) A (
 lt (QF .i64 ((i:Int)+(1:Int))) fun x19=>
 K x19))))=ifb (!(zra ps i v)&&zqm ps i) (K ((i+1:Nat):Int)) A:=by
 have e1:XK 3 (XL 1 ps[i].v)=ps[i].a.v:=rfl
 have key:(idx (yF ps) (i:Int) fun c17=>
   xc β L (yF ps) (XK 3 (XL 1 c17)) (fun v18=>
   ifb ((v18:Int) != (i:Int)) A (
   lt (QF .i64 ((i:Int)+(1:Int))) fun x19=>K x19)))=ifb (zqm ps i) (K ((i+1:Nat):Int)) A:=by
  rw [za4 (za1 h),e1,zrX L ps (by omega) hL,yi,y4 (by omega),zqm,Wb h]
  simp only
  rw [zeP,yX]
 rw [key,yM]
 by_cases h8:8≤i
 ·have g:ps[i-8]?=some (ps[i-8]'(by omega)):=Wb (by omega)
  have e8:QF .i64 ((i:Int)-8)=((i-8:Nat):Int):=by rw [zX (by omega) (by omega)]; omega
  rw [if_pos (by omega),yi,e8,za4 (za1 (by omega)),xF (n:=(ps[i-8]'(by omega)).b) rfl,zra,g]
  simp only
  rw [decide_eq_true h8,XS]
  cases ((ps[i-8]'(by omega)).b==v) <;> rfl
 ·have e:zra ps i v=false:=by
   unfold zra
   rw [decide_eq_false h8]
   split <;> rfl
  rw [if_neg (by omega),e]
  rfl
theorem zG0(L:Nat)(ps:List Plc)(hp:ps.length≤1000)(hL:ps.length<L)(i:Nat)(h:i<ps.length)(v:Int)(A:Option β)(K:Int→Option β) :
  (idx (yF ps) (i:Int) fun c6=>
 cI .i64 c6 0 fun v7=>
 ifb ((v7:Int) != v) A (
 ifb (decide ((i:Int)>(0:Int))) (
 lt (QF .i64 ((i:Int)-(1:Int))) fun x8=>
 idx (yF ps) x8 fun c9=>
 cI .i64 c9 0 fun v10=>
 ifb (decide (v10>v)) A (
 ifb (decide ((i:Int)≥(8:Int))) (
 lt (QF .i64 ((i:Int)-(8:Int))) fun x11=>
 idx (yF ps) x11 fun c12=>
 cI .i64 c12 0 fun v13=>
 ifb ((v13:Int)==v) A (
 idx (yF ps) (i:Int) fun c14=>
 xc β L (yF ps) (XK 3 (XL 1 c14)) (fun v15=>
 ifb ((v15:Int) != (i:Int)) A (
 lt (QF .i64 ((i:Int)+(1:Int))) fun x16=>
 K x16)))) (
 idx (yF ps) (i:Int) fun c17=>
 xc β L (yF ps) (XK 3 (XL 1 c17)) (fun v18=>
 ifb ((v18:Int) != (i:Int)) A (
 lt (QF .i64 ((i:Int)+(1:Int))) fun x19=>
 K x19))))) (
 ifb (decide ((i:Int)≥(8:Int))) (
 lt (QF .i64 ((i:Int)-(8:Int))) fun x11=>
 idx (yF ps) x11 fun c12=>
 cI .i64 c12 0 fun v13=>
 ifb ((v13:Int)==v) A (
 idx (yF ps) (i:Int) fun c14=>
 xc β L (yF ps) (XK 3 (XL 1 c14)) (fun v15=>
 ifb ((v15:Int) != (i:Int)) A (
 lt (QF .i64 ((i:Int)+(1:Int))) fun x16=>
 K x16)))) (
 idx (yF ps) (i:Int) fun c17=>
 xc β L (yF ps) (XK 3 (XL 1 c17)) (fun v18=>
 ifb ((v18:Int) != (i:Int)) A (
 lt (QF .i64 ((i:Int)+(1:Int))) fun x19=>
 K x19))))))=ifb (ps[i].b==v&&!(zmp ps i v)&&!(zra ps i v)&&zqm ps i) (K ((i+1:Nat):Int)) A:=by
 rw [zJH L ps hp hL i h,za4 (za1 h),xF (n:=ps[i].b) rfl,zeP]
 by_cases hb:ps[i].b=v
 ·rw [if_pos hb,hb,beq_self_eq_true,XS,yM]
  by_cases h0:0<i
  ·have g:ps[i-1]?=some (ps[i-1]'(by omega)):=Wb (by omega)
   have e8:QF .i64 ((i:Int)-1)=((i-1:Nat):Int):=by rw [zX (by omega) (by omega)]; omega
   rw [if_pos (by omega),yi,e8,za4 (za1 (by omega)),xF (n:=(ps[i-1]'(by omega)).b) rfl,zmp,g]
   simp only
   rw [decide_eq_true h0,XS]
   cases decide ((ps[i-1]'(by omega)).b>v) <;> rfl
  ·have e:zmp ps i v=false:=by
    unfold zmp
    rw [decide_eq_false h0]
    split <;> rfl
   rw [if_neg (by omega),e]
   rfl
 ·rw [if_neg hb,beq_eq_false_iff_ne.2 hb]
  rfl
end
section
def za0(v:Int)(l:List Plc):Nat:=(l.filter (fun x=>x.b==v)).length
def okS(bk:Plc→Int)(N:List Adr)(pre:List Plc)(e:Plc):Bool:=
 e.b==bk e&&(pre.all (fun x=>decide (x.b≤e.b))&&(decide (za0 e.b pre≤7)&&(!(pre.any (fun x=>xz x.a e.a))&&!(N.any (fun a=>xz a e.a)))))
def okA(bk:Plc→Int)(N:List Adr):List Plc→List Plc→Bool
 | _,[]=>true
 | pre,e::l=>okS bk N pre e&&okA bk N (pre++[e]) l
def Srt(l:List Plc):Prop:=l.Pairwise (fun x y=>x.b≤y.b)
theorem zHM{bk:Plc→Int}{N:List Adr}{pre:List Plc}{e:Plc}(h:okS bk N pre e=true):∀ x∈pre,x.b≤e.b:=by
 simp only [okS,Wg,QN,decide_eq_true_eq] at h
 exact h.2.1
theorem Srt.snoc{pre:List Plc}{e:Plc}(h:Srt pre)(he:∀ x∈pre,x.b≤e.b):Srt (pre++[e]):=by
 unfold Srt at *
 rw [Xr]
 exact ⟨h,by simp,fun x hx y hy=>by simp at hy; subst hy; exact he x hx⟩
theorem Srt.split:∀ {l:List Plc} (v:Int),Srt l→(∀ x∈l,x.b≤v)→∃ A B:List Plc,l=A++B∧(∀ x∈A,x.b<v)∧(∀ x∈B,x.b=v)
 | [],v,_,_=>⟨[],[],rfl,by simp,by simp⟩
 | x::l,v,h,hv=>by
  have h':=Xs.1 h
  obtain ⟨A,B,rfl,hA,hB⟩:=Srt.split v h'.2 (fun y hy=>hv y (by simp [hy]))
  by_cases hx:x.b<v
  ·exact ⟨x::A,B,rfl,by simpa using ⟨hx,hA⟩,hB⟩
  ·have hxv:x.b=v:=by have:=hv x (by simp); omega
   have:A=[]:=by
    cases A with
    | nil=>rfl
    | cons a A=>
     have h1:=hA a (by simp)
     have h2:=h'.1 a (by simp)
     omega
   subst this
   exact ⟨[],x::B,rfl,by simp,by simpa using ⟨hxv,hB⟩⟩
theorem zGB{A B:List Plc}{v:Int}(hA:∀ x∈A,x.b<v)(hB:∀ x∈B,x.b=v):za0 v (A++B)=B.length:=by
 unfold za0
 rw [XV,X3.2 (fun x hx=>by have:=hA x hx; simp; omega),Xf.2 (fun x hx=>by simp [hB x hx])]
 rfl
theorem zEZ{l:List Plc}(h:Srt l)(v:Int)(i:Nat)(hi:i<l.length):(l.take i).all (fun x=>decide (x.b≤v))=!(zmp l i v):=by
 unfold zmp
 cases i with
 | zero=>cases hl:l[0-1]? <;> simp
 | succ i=>
  rw [Nat.add_sub_cancel,Wb (by omega)]
  simp only
  rw [Bool.eq_iff_iff]
  simp only [QN,decide_eq_true_eq,Q8,Bool.and_eq_false_imp,decide_eq_false_iff_not]
  constructor
  ·intro H _ hgt
   have:=H l[i] (XU.2 ⟨i,by omega,rfl⟩)
   omega
  ·intro H x hx
   have H:=H (by omega)
   obtain ⟨j,hj,rfl⟩:=XU.1 hx
   by_cases hji:j=i
   ·subst hji; omega
   ·have:=X4.1 h j i (by omega) (by omega) (by omega)
    omega
theorem zJn{l:List Plc}{i:Nat}(hi:i<l.length)(v:Int)(h:Srt (l.take i))(hv:∀ x∈l.take i,x.b≤v):zra l i v=!(decide (za0 v (l.take i)≤7)):=by
 obtain ⟨A,B,hAB,hA,hB⟩:=h.split v hv
 rw [hAB,zGB hA hB]
 have hlen:i=A.length+B.length:=by
  have:=congrArg XI hAB
  rw [Ww,Wm,Nat.min_eq_left (by omega)] at this
  exact this
 unfold zra
 rw [Wb (by omega)]
 simp only
 by_cases h8:8≤i
 ·have e:l[i-8]'(by omega)=(A++B)[i-8]'(by rw [Wm]; omega):=by
   have:(l.take i)[i-8]'(by rw [Ww]; omega)=l[i-8]'(by omega):=List.getElem_take
   rw [← this]
   simp only [hAB]
  rw [decide_eq_true h8,XS,e]
  by_cases h7:B.length≤7
  ·rw [decide_eq_true h7,Yd (by omega)]
   have:=hA (A[i-8]'(by omega)) (W1 _)
   rw [beq_eq_false_iff_ne.2 (by omega)]; rfl
  ·rw [decide_eq_false h7,Yc (by omega)]
   rw [hB _ (W1 _),beq_self_eq_true]; rfl
 ·rw [decide_eq_false h8,Xo,decide_eq_true (by omega)]; rfl
theorem zvf(a:Adr):xz a a=true:=by simp [xz]
theorem zIG{l:List Plc}{i:Nat}(hi:i<l.length):zqm l i=!((l.take i).any (fun x=>xz x.a l[i].a)):=by
 unfold zqm
 rw [Wb hi]
 simp only
 rcases znE (fun x:Plc=>xz x.a l[i].a) l 0 with ⟨h1,h2⟩ | ⟨j,hj,h1,h2,h3⟩
 ·have:=h2 l[i] (W1 hi)
  simp only [zvf] at this
  cases this
 ·rw [h1,WB]
  by_cases hij:j=i
  ·subst hij
   rw [beq_self_eq_true]
   have:(l.take j).any (fun x=>xz x.a l[j].a)=false:=by
    rw [X6]
    intro x hx; rw [h2 x hx]; simp
   rw [this]; rfl
  ·have hlt:j<i:=by
    rcases Nat.lt_or_gt_of_ne hij with h | h
    ·exact h
    ·have:=h2 l[i] (XU.2 ⟨i,by omega,rfl⟩)
     simp only [zvf] at this
     cases this
   rw [beq_eq_false_iff_ne.2 (by omega)]
   have:(l.take i).any (fun x=>xz x.a l[i].a)=true:=List.any_eq_true.2 ⟨l[j],XU.2 ⟨j,by omega,rfl⟩,h3⟩
   rw [this]; rfl
theorem zHj(bk:Plc→Int){l:List Plc}{i:Nat}(hi:i<l.length)(h:Srt (l.take i)):zqK bk l i=okS bk [] (l.take i) l[i]:=by
 unfold zqK okS
 rw [Wb hi]
 simp only
 by_cases hb:l[i].b=bk l[i]
 ·rw [beq_iff_eq.2 hb,XS,XS,← hb,zIG hi]
  have hl:(l.take i).all (fun x=>decide (x.b≤l[i].b))=!(zmp (l.take i++[l[i]]) i l[i].b):=by
   by_cases ha:∀ x∈l.take i,x.b≤l[i].b
   ·rw [← zEZ (h.snoc ha) _ i (by rw [Wm,Ww]; simp; omega),Yh (by rw [Ww]; omega)]
   ·have e1:(l.take i).all (fun x=>decide (x.b≤l[i].b))=false:=by
     rw [Bool.eq_false_iff]
     intro hh
     apply ha
     intro x hx
     have:=QN.1 hh x hx
     simpa using this
    rw [e1]
    have hex:∃ x∈l.take i,l[i].b<x.b:=by
     apply Classical.byContradiction
     intro hn
     exact ha (fun x hx=>by
      apply Classical.byContradiction
      intro h2
      exact hn ⟨x,hx,by omega⟩)
    obtain ⟨x,hx,hlt⟩:=hex
    obtain ⟨j,hj,rfl⟩:=XU.1 hx
    unfold zmp
    rw [Wv (by rw [Ww]; omega),Ye (by omega),Wb (by omega)]
    simp only
    have:l[j].b≤(l[i-1]'(by omega)).b:=by
     by_cases hji:j=i-1
     ·subst hji; exact Yp _
     ·have:=X4.1 h j (i-1) (by rw [Ww]; omega) (by rw [Ww]; omega) (by omega)
      simpa using this
    rw [decide_eq_true (by omega:0<i),decide_eq_true (by omega)]
    rfl
  have hl2:zmp (l.take i++[l[i]]) i l[i].b=zmp l i l[i].b:=by
   rw [← XR hi]
   unfold zmp
   by_cases h0:0<i
   ·rw [Ye (by omega)]
   ·rw [decide_eq_false h0]
    cases (XK (i+1) l)[i-1]? <;> cases l[i-1]? <;> simp
  rw [hl2] at hl
  rw [hl]
  cases hless:zmp l i l[i].b with
  | true=>rfl
  | false=>
   rw [hless] at hl
   have ha:∀ x∈l.take i,x.b≤l[i].b:=fun x hx=>by simpa using QN.1 hl x hx
   rw [zJn hi _ h ha]
   simp [Ym]
 ·rw [beq_eq_false_iff_ne.2 hb]; rfl
theorem zAH(bk:Plc→Int)(l:List Plc):∀ (n i:Nat),i+n=l.length→Srt (l.take i)→znP (zqK bk l) i n=okA bk [] (l.take i) (l.drop i)
 | 0,i,h,hs=>by rw [WI (by omega)]; rfl
 | n+1,i,h,hs=>by
  rw [znP,WP (by omega),okA,zHj bk (by omega) hs]
  cases ho:okS bk [] (l.take i) (l[i]'(by omega)) with
  | false=>rfl
  | true=>
   have hi:i<l.length:=by omega
   rw [XS,XS,zAH bk l n (i+1) (by omega) (by rw [XR hi]; exact hs.snoc (zHM ho)),XR hi]
theorem zrM(bk:Plc→Int)(l:List Plc):zfv bk l=(decide (l.length≤512)&&okA bk [] [] l):=by
 unfold zfv
 rw [zAH bk l l.length 0 (by omega) (by simp [Srt])]
 rfl
structure TOk (bk:Plc→Int) (N:List Adr) (l:List Plc):Prop where
 b:∀ e∈l,e.b=bk e
 s:Srt l
 c:∀ v,za0 v l≤8
 n:l.Pairwise (fun x y=>xz x.a y.a=false)
 f:∀ e∈l,∀ a∈N,xz a e.a=false
theorem ziT(v:Int)(pre:List Plc)(e:Plc):za0 v (pre++[e])=za0 v pre+if e.b=v then 1 else 0:=by
 unfold za0
 rw [XV,Wm]
 by_cases h:e.b=v <;> simp [h]
theorem TOk.snoc(bk:Plc→Int)(N:List Adr)(pre:List Plc)(e:Plc):TOk bk N (pre++[e])↔TOk bk N pre∧okS bk N pre e=true:=by
 simp only [okS,Wg,QN,decide_eq_true_eq,beq_iff_eq,Q8,X6,Yf]
 constructor
 ·intro h
  have hs:=Xr.1 h.s
  have hn:=Xr.1 h.n
  refine ⟨⟨fun x hx=>h.b x (by simp [hx]),hs.1,fun v=>?_,hn.1,fun x hx=>h.f x (by simp [hx])⟩,h.b e (by simp),fun x hx=>hs.2.2 x hx e (by simp),?_,fun x hx=>hn.2.2 x hx e (by simp),h.f e (by simp)⟩
  ·have:=h.c v; rw [ziT] at this; omega
  ·have:=h.c e.b; rw [ziT,if_pos rfl] at this; omega
 ·rintro ⟨h,h1,h2,h3,h4,h5⟩
  refine ⟨?_,h.s.snoc h2,fun v=>?_,?_,?_⟩
  ·intro x hx
   rcases QC.1 hx with hx | hx
   ·exact h.b x hx
   ·simp at hx; subst hx; exact h1
  ·rw [ziT]
   split
   ·rename_i hv; subst hv; omega
   ·have:=h.c v; omega
  ·rw [Xr]
   exact ⟨h.n,by simp,fun x hx y hy=>by simp at hy; subst hy; exact h4 x hx⟩
  ·intro x hx
   rcases QC.1 hx with hx | hx
   ·exact h.f x hx
   ·simp at hx; subst hx; exact h5
theorem TOk.nil(bk:Plc→Int)(N:List Adr):TOk bk N []:=⟨by simp,List.Pairwise.nil,by simp [za0],List.Pairwise.nil,by simp⟩
theorem zBI(bk:Plc→Int)(N:List Adr):∀ (l pre:List Plc),TOk bk N pre→(okA bk N pre l=true↔TOk bk N (pre++l))
 | [],pre,h=>by simp [okA,h]
 | e::l,pre,h=>by
  rw [okA,Wg,show pre++e::l=(pre++[e])++l by simp]
  constructor
  ·rintro ⟨h1,h2⟩
   exact (zBI bk N l (pre++[e]) ((TOk.snoc bk N pre e).2 ⟨h,h1⟩)).1 h2
  ·intro H
   have hp:TOk bk N (pre++[e]):=by
    have hs:=Xr.1 H.s
    have hn:=Xr.1 H.n
    refine ⟨fun x hx=>H.b x (Xc _ hx),hs.1,fun v=>?_,hn.1,fun x hx=>H.f x (Xc _ hx)⟩
    have:=H.c v
    unfold za0 at this ⊢
    rw [XV,Wm] at this
    omega
   exact ⟨((TOk.snoc bk N pre e).1 hp).2,(zBI bk N l (pre++[e]) hp).2 H⟩
end
section
variable {β:Type}
theorem zCR(bk:Plc→Int){l:List Plc}{i:Nat}(h:i<l.length):zqK bk l i=(l[i].b==bk l[i]&&!(zmp l i (bk l[i]))&&!(zra l i (bk l[i]))&&zqm l i):=by
 unfold zqK; rw [Wb h]
theorem zFU(L:Nat)(s:List Int)(hs:s.length=32)(ps:List Plc)(hp:ps.length≤1000)(hL:ps.length<L)(k:Bool→Option β):∀ (m i:Nat),i≤ps.length→ps.length-i<m →
  zbC ze xb xc (L+100) k (k true) m (yF ps) true (i:Int) (row .u8 s)=k (znP (zqK (fun e=>hbk s e.a e.s) ps) i (ps.length-i)):=by
 intro m
 induction m with
 | zero=>intro i h1 h2; omega
 | succ m IH=>
  intro i h1 h2
  unfold zbC zhG
  rw [zK]
  by_cases h:i<ps.length
  ·have e1:XK 3 (XL 1 ps[i].v)=ps[i].a.v:=rfl
   have ih:=IH (i+1) (by omega) (by omega)
   have e4:ps.length-i=(ps.length-(i+1))+1:=by omega
   rw [zaE (by omega),zr0 hs,xa (by rw [zbo,hs]; omega),za4 (za1 h),e1,zGd L s hs]
   rw [e4,znP,zCR _ h]
   rw [zef,xa (by rw [zbo,hs]; omega),za4 (za1 h),za4 (za1 h),xF (n:=ps[i].s) rfl,e1,zIW L s hs]
   refine (zG0 (L+100) ps hp (by omega) i h _ _ (fun x=>zbC ze xb xc (L+100) k (k true) m (yF ps) true x (row .u8 s))).trans ?_
   rw [ih]
   cases (ps[i].b==hbk s ps[i].a ps[i].s&&!(zmp ps i (hbk s ps[i].a ps[i].s))&&!(zra ps i (hbk s ps[i].a ps[i].s))&&zqm ps i) <;> rfl
  ·rw [zaO (by omega),show ps.length-i=0 by omega]; rfl
theorem zF9(L:Nat)(s:List Int)(hs:s.length=32)(ps:List Plc)(hp:ps.length≤1000)(hL:ps.length<L)(k:Bool→Option β):∀ (m i:Nat),i≤ps.length→ps.length-i<m →
  zbC ze xb xc (L+100) k (k true) m (yF ps) false (i:Int) (row .u8 s)=k (znP (zqK (fun e=>tbk s e.a) ps) i (ps.length-i)):=by
 intro m
 induction m with
 | zero=>intro i h1 h2; omega
 | succ m IH=>
  intro i h1 h2
  unfold zbC zhG
  rw [zK]
  by_cases h:i<ps.length
  ·have e1:XK 3 (XL 1 ps[i].v)=ps[i].a.v:=rfl
   have ih:=IH (i+1) (by omega) (by omega)
   have e4:ps.length-i=(ps.length-(i+1))+1:=by omega
   rw [zaE (by omega),zr0 hs,xa (by rw [zbo,hs]; omega),za4 (za1 h),e1,zGd L s hs]
   rw [e4,znP,zCR _ h]
   rw [zaU]
   refine (zG0 (L+100) ps hp (by omega) i h _ _ (fun x=>zbC ze xb xc (L+100) k (k true) m (yF ps) false x (row .u8 s))).trans ?_
   rw [ih]
   cases (ps[i].b==tbk s ps[i].a&&!(zmp ps i (tbk s ps[i].a))&&!(zra ps i (tbk s ps[i].a))&&zqm ps i) <;> rfl
  ·rw [zaO (by omega),show ps.length-i=0 by omega]; rfl
theorem zKu(L:Nat)(s:List Int)(hs:s.length=32)(ps:List Plc)(hp:ps.length≤1000)(hL:ps.length<L)(k:Bool→Option β) :
  yn β (L+100) (row .u8 s) (yF ps) true k=k (zfv (fun e=>hbk s e.a e.s) ps):=by
 unfold yn zjN zm0 zfv
 rw [zK,yM]
 by_cases h:ps.length≤512
 ·rw [if_neg (by omega),decide_eq_true h,XS]
  refine (zFU L s hs ps hp hL k (L+100) 0 (by omega) (by omega)).trans ?_
  rw [X5]
 ·rw [if_pos (by omega),decide_eq_false h]; rfl
theorem zKH(L:Nat)(s:List Int)(hs:s.length=32)(ps:List Plc)(hp:ps.length≤1000)(hL:ps.length<L)(k:Bool→Option β) :
  yn β (L+100) (row .u8 s) (yF ps) false k=k (zfv (fun e=>tbk s e.a) ps):=by
 unfold yn zjN zm0 zfv
 rw [zK,yM]
 by_cases h:ps.length≤512
 ·rw [if_neg (by omega),decide_eq_true h,XS]
  refine (zF9 L s hs ps hp hL k (L+100) 0 (by omega) (by omega)).trans ?_
  rw [X5]
 ·rw [if_pos (by omega),decide_eq_false h]; rfl
def hbf(s:List Int)(e:Plc):Int:=hbk s e.a e.s
def tbf(s:List Int)(e:Plc):Int:=tbk s e.a
def zdP(b:Bk):Bool:=zfv (hbf b.salt) b.H&&(zfv (tbf b.salt) b.T&&b.H.all (fun e=>!(b.T.any (fun x=>xz x.a e.a))))
theorem zJJ(L:Nat)(b:Bk)(hH:b.H.length≤1000)(hT:b.T.length≤1000)(hL:b.T.length<L)(k:Bool→Option β):∀ (m i:Nat),i≤b.H.length→b.H.length-i<m →
  zfb yn xc L k (k true) m (i:Int) b.v=k ((b.H.drop i).all (fun e=>!(b.T.any (fun x=>xz x.a e.a)))):=by
 intro m
 induction m with
 | zero=>intro i h1 h2; omega
 | succ m IH=>
  intro i h1 h2
  unfold zfb zkS
  rw [yY b.g32,zK]
  by_cases h:i<b.H.length
  ·have e1:XK 3 (XL 1 b.H[i].v)=b.H[i].a.v:=rfl
   rw [zaE (by omega),yY b.g33,yY b.g32,za4 (za1 h),e1,zrX L b.T (by omega) hL,zFt,WP h,List.all_cons,yi,y4 (by omega)]
   have ih:=IH (i+1) (by omega) (by omega)
   cases (b.T.any fun x=>xz x.a b.H[i].a) with
   | true=>rfl
   | false=>exact ih
  ·rw [zaO (by omega),WI (by omega)]; rfl
theorem Bk.t32(b:Bk):XK 32 b.v=row .u8 b.salt:=by
 rw [Bk.v,Yh (by rw [zbo,b.hs])]
theorem zuZ(L:Nat)(b:Bk)(hH:b.H.length≤1000)(hT:b.T.length≤1000)(hL:1000<L)(k:Bool→Option β):xp β (L+100) b.v k=k (zdP b):=by
 unfold xp zmP zrm zdP
 rw [xa (by rw [b.len]; omega),yY b.g32,b.t32,zKu L b.salt b.hs b.H hH (by omega)]
 have eH:zfv (fun e=>hbk b.salt e.a e.s) b.H=zfv (hbf b.salt) b.H:=rfl
 have eT:zfv (fun e=>tbk b.salt e.a) b.T=zfv (tbf b.salt) b.T:=rfl
 rw [eH]
 cases zfv (hbf b.salt) b.H with
 | false=>rfl
 | true=>
  rw [Xg,zaU,xa (by rw [b.len]; omega),yY b.g33,zKH L b.salt b.hs b.T hT (by omega),eT]
  cases zfv (tbf b.salt) b.T with
  | false=>rfl
  | true=>
   rw [Xg,zaU]
   exact zJJ (L+100) b hH hT (by omega) k (L+100) 0 (by omega) (by omega)
end
section
variable {β:Type}
theorem zAO(n:Int):0≤QF .u64 n∧QF .u64 n≤18446744073709551615:=by
 unfold QF
 simp only [IntKind.signed,Xo,WO,if_false,IntKind.bits]
 have h1:=Int.emod_nonneg n (show (2 ^ 64:Int)≠0 by decide)
 have h2:=Int.emod_lt_of_pos n (show (0:Int)<2 ^ 64 by decide)
 omega
theorem zCV(s m1:List Int)(m2:Int→List Int):0≤bkt s m1 m2∧bkt s m1 m2<64:=by
 unfold bkt
 generalize hx:zrD (zF2 s) (zGi s) (m2 (QF .u32 (XP (zrD (zF2 s) (zGi s) m1) 4)))=x
 have h0:0≤x:=by
  rw [← hx]; unfold zrD zFJ zDC zbs; exact (zAO _).1
 have h1:=Int.tmod_nonneg 64 h0
 have h2:=Int.tmod_lt_of_pos x (show (0:Int)<64 by decide)
 rw [zX (by omega) (by omega)]
 exact ⟨h1,h2⟩
theorem zCE(s:List Int)(e:Plc):0≤hbf s e∧hbf s e<64:=by unfold hbf hbk; exact zCV _ _ _
theorem zCT(s:List Int)(e:Plc):0≤tbf s e∧tbf s e<64:=by unfold tbf tbk; exact zCV _ _ _
def nmv(a:Adr):V:=.agg [.sc (.int .u32 a.h),.sc (.int .u16 a.p)]
def zdv(N:List Adr):List (V × V):=N.map fun a=>(nmv a,.sc (.bool true))
theorem zEp(a b:Adr):zkv (nmv a) (nmv b)=some (xz a b):=by
 simp [zkv,nmv,zfu,xz]
theorem zf0(a b:Adr):xz a b=xz b a:=by
 unfold xz; rw [Bool.beq_comm (a:=a.h),Bool.beq_comm (a:=a.p)]
theorem zzj(a:Adr):∀ N:List Adr,zrN (nmv a) (zdv N)=some (if N.any (fun x=>xz x a) then some (.sc (.bool true)) else none)
 | []=>rfl
 | x::N=>by
  have ih:=zzj a N
  simp only [zdv,QV,zrN,zEp,List.any_cons,zf0 x a] at ih ⊢
  cases xz a x with
  | true=>rfl
  | false=>simpa using ih
theorem zAe(a:Adr):∀ N:List Adr,N.any (fun x=>xz x a)=false→zzS (nmv a) (.sc (.bool true)) (zdv N)=some (zdv (N++[a]))
 | [],_=>rfl
 | x::N,h=>by
  rw [List.any_cons,Bool.or_eq_false_iff,zf0] at h
  have ih:=zAe a N h.2
  simp only [zdv,QV,zzS,zEp,h.1,List.cons_append] at ih ⊢
  rw [ih]; rfl
theorem zCJ(a:Adr)(N:List Adr)(K:Bool→Option β):(mAt 4 (V.agg (XK 2 [(Qc a.h),(Qb a.p)])) (zdv N) fun q=>aB (XO q (V.sc (.bool false))) K)=K (N.any (fun x=>xz x a)):=by
 have e:V.agg (XK 2 [(Qc a.h),(Qb a.p)])=nmv a:=rfl
 rw [e]
 have h:zjC 4 (nmv a)=true:=rfl
 simp only [mAt,h,zzj]
 cases N.any (fun x=>xz x a) <;> rfl
theorem zA9{a:Adr}{N:List Adr}(h:N.any (fun x=>xz x a)=false)(K:List (V × V)→Option β):ztU 4 (V.agg (XK 2 [(Qc a.h),(Qb a.p)])) (V.sc (.bool true)) (zdv N) K=K (zdv (N++[a])):=by
 have e:V.agg (XK 2 [(Qc a.h),(Qb a.p)])=nmv a:=rfl
 rw [e]
 have h':zjC 4 (nmv a)=true:=rfl
 simp only [ztU,h',zAe a N h]
theorem zKK(L:Nat)(b:Bk)(e:Plc)(k:Int→List V→Option β):yh β (L+100) e.v b.v k=k (hbf b.salt e) b.v:=by
 unfold yh zlH
 have e1:XK 3 (XL 1 e.v)=e.a.v:=rfl
 rw [xa (by rw [b.len]; omega),xa (by show 1+3≤5; omega),xF (n:=e.s) rfl,b.t32,e1,zF0 L b.salt b.hs]
 rfl
theorem zKT(L:Nat)(b:Bk)(e:Plc)(k:Int→List V→Option β):zh β (L+100) e.v b.v k=k (tbf b.salt e) b.v:=by
 unfold zh zlE
 have e1:XK 3 (XL 1 e.v)=e.a.v:=rfl
 rw [xa (by rw [b.len]; omega),xa (by show 1+3≤5; omega),b.t32,e1,zI2 L b.salt b.hs]
 rfl
theorem zCU{v:Int}{pre:List Plc}(h:∀ x∈pre,x.b<v):za0 v pre=0:=by
 unfold za0
 rw [X3.2 (fun x hx=>by have:=h x hx; simp; omega)]; rfl
structure Inv (pre:List Plc) (la ru:Int):Prop where
 le:∀ x∈pre,x.b≤la
 ru:ru=(za0 la pre:Nat)
 ex:(la=-1∧pre=[])∨∃ x∈pre,x.b=la
 mn:-1≤la
theorem Inv.next{pre:List Plc}{la ru:Int}(h:Inv pre la ru){e:Plc}(he:la≤e.b):Inv (pre++[e]) e.b ((za0 e.b (pre++[e]):Nat):Int):=
 ⟨fun x hx=>by
  rcases QC.1 hx with hx | hx
  ·have:=h.le x hx; omega
  ·simp at hx; subst hx; exact Yp _,rfl,.inr ⟨e,by simp,rfl⟩,by have:=h.mn; omega⟩
theorem zHl{bk:Plc→Int}{N:List Adr}{pre:List Plc}{la ru:Int}(h:Inv pre la ru){e:Plc}(hb:0≤bk e)(he:e.b<la):okS bk N pre e=false:=by
 rw [Bool.eq_false_iff]
 intro H
 have h1:=zHM H
 rcases h.ex with ⟨h2,h3⟩ | ⟨x,hx,h2⟩
 ·simp only [okS,Wg,beq_iff_eq] at H
  omega
 ·have:=h1 x hx; omega
theorem zHb{bk:Plc→Int}{N:List Adr}{pre:List Plc}{la ru:Int}(h:Inv pre la ru){e:Plc}(he:la≤e.b):okS bk N pre e=(e.b==bk e&&(decide (za0 e.b (pre++[e])≤8)&&!((N++pre.map Plc.a).any (fun a=>xz a e.a)))):=by
 unfold okS
 have h1:pre.all (fun x=>decide (x.b≤e.b))=true:=QN.2 fun x hx=>decide_eq_true (by have:=h.le x hx; omega)
 rw [h1,XS,ziT,if_pos rfl,List.any_append,List.any_map,Bool.not_or]
 have e1:decide (za0 e.b pre+1≤8)=decide (za0 e.b pre≤7):=decide_eq_decide.2 (by omega)
 rw [e1]
 congr 2
 rw [Bool.and_comm]; rfl
theorem zGC(L:Nat)(b:Bk)(l:List Plc)(hl:l.length≤1000)(N:List Adr)(kr:Bool→List (V × V)→List V→Option β)(kx:List (V × V)→List V→Option β)(R:Option β)(hr:∀ mp,kr false mp b.v=R):∀ (m i:Nat) (la ru:Int),i≤l.length→l.length-i<m→Inv (l.take i) la ru →
  zcB yh (L+100) kr kx m la ru (yF l) ((l.length:Nat):Int) (i:Int) (zdv (N++(l.take i).map Plc.a)) b.v=ifb (okA (hbf b.salt) N (l.take i) (l.drop i)) (kx (zdv (N++l.map Plc.a)) b.v) R:=by
 intro m
 induction m with
 | zero=>intro i la ru h1 h2; omega
 | succ m IH=>
  intro i la ru h1 h2 hi
  unfold zcB zhU
  by_cases h:i<l.length
  ·have e1:XK 5 l[i].v=l[i].v:=rfl
   have e2:xd [(Qe (0:Int)),(Qc (0:Int)),(Qb (0:Int)),(Qc (0:Int)),(Qc (0:Int))] 0 l[i].v=l[i].v:=znH rfl
   have hcl:za0 la (l.take i)≤l.length:=by
    unfold za0
    exact QD (Yl _ _) (by rw [Ww]; omega)
   rw [zaE (by omega),za4 (za1 h),e1,xa ⟨rfl,by omega⟩,yi,e2,xF (n:=l[i].b) rfl,yM,WP h,okA]
   by_cases hlt:l[i].b<la
   ·rw [if_pos hlt,zHl hi (zCE _ _).1 hlt,Xo,hr]; rfl
   ·rw [if_neg hlt,xF (n:=l[i].b) rfl,xa (by show 0+5≤5; omega),e1,zKK,xa rfl,zeP,zHb hi (by omega)]
    by_cases hb:l[i].b=hbf b.salt l[i]
    ·have hi':=hi.next (e:=l[i]) (by omega)
     have key:∀ ru':Int,ru'=((za0 l[i].b (l.take i++[l[i]]):Nat):Int) →
       (cI .u32 l[i].v 1 fun v9=>
        cI .u16 l[i].v 2 fun v10=>
        lt [(Qc v9),(Qb v10)] fun r11=>
        ifb (decide (ru'>(8:Int))) (
        kr false (zdv (N++(l.take i).map Plc.a)) b.v) (
        chk (0+2≤(XI r11)) (
        mAt 4 (V.agg (XK 2 r11)) (zdv (N++(l.take i).map Plc.a)) fun q12=>
        aB (XO q12 (V.sc (.bool false))) fun v13=>
        ifb v13 (
        kr false (zdv (N++(l.take i).map Plc.a)) b.v) (
        chk (0+2≤(XI r11)) (
        ztU 4 (V.agg (XK 2 r11)) (V.sc (.bool true)) (zdv (N++(l.take i).map Plc.a)) fun m14=>
        lt (QF .i64 ((i:Int)+(1:Int))) fun x15=>
        zcB yh (L+100) kr kx m l[i].b ru' (yF l) ((l.length:Nat):Int) x15 m14 b.v)))))
       = ifb (decide (za0 l[i].b (l.take i++[l[i]])≤8)&&!((N++(l.take i).map Plc.a).any (fun a=>xz a l[i].a))&&okA (hbf b.salt) N (l.take i++[l[i]]) (l.drop (i+1))) (kx (zdv (N++l.map Plc.a)) b.v) R:=by
      intro ru' hru
      rw [xF (n:=l[i].a.h) rfl,xF (n:=l[i].a.p) rfl,yi,yM]
      by_cases hc:za0 l[i].b (l.take i++[l[i]])≤8
      ·rw [if_neg (by omega),decide_eq_true hc,XS,xa (by show 0+2≤2; omega),zCJ]
       cases ha:(N++(l.take i).map Plc.a).any (fun a=>xz a l[i].a) with
       | true=>exact hr _
       | false=>
        rw [zaU,xa (by show 0+2≤2; omega),zA9 ha,yi,y4 (by omega)]
        have ih:=IH (i+1) l[i].b ru' (by omega) (by omega) (by rw [XR h,hru]; exact hi')
        rw [XR h,List.map_append,QV,Yg,← Wu] at ih
        exact ih
      ·rw [if_pos (by omega),decide_eq_false hc,hr]; rfl
     rw [if_pos hb,xF (n:=l[i].b) rfl,zeP,beq_iff_eq.2 hb,XS]
     by_cases hll:l[i].b=la
     ·rw [if_pos hll,yi,← hll]
      have e3:QF .i64 (ru+1)=((za0 l[i].b (l.take i++[l[i]]):Nat):Int):=by
       rw [hi.ru,zX (by omega) (by omega),ziT,if_pos rfl,hll]; omega
      exact key _ e3
     ·rw [if_neg hll,xF (n:=l[i].b) rfl,yi]
      have e3:QF .i64 (((0:Int):Int)+1)=((za0 l[i].b (l.take i++[l[i]]):Nat):Int):=by
       rw [zX (by omega) (by omega),ziT,if_pos rfl,zCU (fun x hx=>by have:=hi.le x hx; omega)]; rfl
      exact key _ e3
    ·rw [if_neg hb,beq_eq_false_iff_ne.2 hb,hr]; rfl
  ·rw [zaO (by omega),WI (by omega),Xu (by omega)]; rfl
theorem zKo(L:Nat)(b:Bk)(l:List Plc)(hl:l.length≤1000)(hL:1000<L)(N:List Adr)(k:Bool→List (V × V)→List V→Option β)(R:Option β)(hr:∀ mp,k false mp b.v=R) :
  zY β (L+100) (yF l) (zdv N) b.v k=ifb (decide (l.length≤512)&&okA (hbf b.salt) N [] l) (k true (zdv (N++l.map Plc.a)) b.v) R:=by
 unfold zY zjz zns
 rw [zK,yM]
 by_cases h:l.length≤512
 ·rw [if_neg (by omega),decide_eq_true h,XS,show ((0:Int))=((0:Nat):Int) from rfl]
  have:=zGC L b l hl N (fun p6 b0 b1=>zf3 yh (L+100) p6 b0 b1 k) (fun b0 b1=>zgk yh (L+100) b0 b1 k) R (fun mp=>hr mp) (L+100) 0 (-1) 0 (by omega) (by omega) ⟨by simp,rfl,.inl ⟨rfl,rfl⟩,by omega⟩
  rw [Yn,X0,Yg,Ya] at this
  exact this
 ·rw [if_pos (by omega),decide_eq_false h,hr]; rfl
theorem zGr(L:Nat)(b:Bk)(l:List Plc)(hl:l.length≤1000)(N:List Adr)(kr:Bool→List (V × V)→List V→Option β)(kx:List (V × V)→List V→Option β)(R:Option β)(hr:∀ mp,kr false mp b.v=R):∀ (m i:Nat) (la ru:Int),i≤l.length→l.length-i<m→Inv (l.take i) la ru →
  zbR zh (L+100) kr kx m la ru (yF l) ((l.length:Nat):Int) (i:Int) (zdv (N++(l.take i).map Plc.a)) b.v=ifb (okA (tbf b.salt) N (l.take i) (l.drop i)) (kx (zdv (N++l.map Plc.a)) b.v) R:=by
 intro m
 induction m with
 | zero=>intro i la ru h1 h2; omega
 | succ m IH=>
  intro i la ru h1 h2 hi
  unfold zbR zf9
  by_cases h:i<l.length
  ·have e1:XK 5 l[i].v=l[i].v:=rfl
   have e2:xd [(Qe (0:Int)),(Qc (0:Int)),(Qb (0:Int)),(Qc (0:Int)),(Qc (0:Int))] 0 l[i].v=l[i].v:=znH rfl
   have hcl:za0 la (l.take i)≤l.length:=by
    unfold za0
    exact QD (Yl _ _) (by rw [Ww]; omega)
   rw [zaE (by omega),za4 (za1 h),e1,xa ⟨rfl,by omega⟩,yi,e2,xF (n:=l[i].b) rfl,yM,WP h,okA]
   by_cases hlt:l[i].b<la
   ·rw [if_pos hlt,zHl hi (zCT _ _).1 hlt,Xo,hr]; rfl
   ·rw [if_neg hlt,xF (n:=l[i].b) rfl,xa (by show 0+5≤5; omega),e1,zKT,xa rfl,zeP,zHb hi (by omega)]
    by_cases hb:l[i].b=tbf b.salt l[i]
    ·have hi':=hi.next (e:=l[i]) (by omega)
     have key:∀ ru':Int,ru'=((za0 l[i].b (l.take i++[l[i]]):Nat):Int) →
       (cI .u32 l[i].v 1 fun v9=>
        cI .u16 l[i].v 2 fun v10=>
        lt [(Qc v9),(Qb v10)] fun r11=>
        ifb (decide (ru'>(8:Int))) (
        kr false (zdv (N++(l.take i).map Plc.a)) b.v) (
        chk (0+2≤(XI r11)) (
        mAt 4 (V.agg (XK 2 r11)) (zdv (N++(l.take i).map Plc.a)) fun q12=>
        aB (XO q12 (V.sc (.bool false))) fun v13=>
        ifb v13 (
        kr false (zdv (N++(l.take i).map Plc.a)) b.v) (
        chk (0+2≤(XI r11)) (
        ztU 4 (V.agg (XK 2 r11)) (V.sc (.bool true)) (zdv (N++(l.take i).map Plc.a)) fun m14=>
        lt (QF .i64 ((i:Int)+(1:Int))) fun x15=>
        zbR zh (L+100) kr kx m l[i].b ru' (yF l) ((l.length:Nat):Int) x15 m14 b.v)))))
       = ifb (decide (za0 l[i].b (l.take i++[l[i]])≤8)&&!((N++(l.take i).map Plc.a).any (fun a=>xz a l[i].a))&&okA (tbf b.salt) N (l.take i++[l[i]]) (l.drop (i+1))) (kx (zdv (N++l.map Plc.a)) b.v) R:=by
      intro ru' hru
      rw [xF (n:=l[i].a.h) rfl,xF (n:=l[i].a.p) rfl,yi,yM]
      by_cases hc:za0 l[i].b (l.take i++[l[i]])≤8
      ·rw [if_neg (by omega),decide_eq_true hc,XS,xa (by show 0+2≤2; omega),zCJ]
       cases ha:(N++(l.take i).map Plc.a).any (fun a=>xz a l[i].a) with
       | true=>exact hr _
       | false=>
        rw [zaU,xa (by show 0+2≤2; omega),zA9 ha,yi,y4 (by omega)]
        have ih:=IH (i+1) l[i].b ru' (by omega) (by omega) (by rw [XR h,hru]; exact hi')
        rw [XR h,List.map_append,QV,Yg,← Wu] at ih
        exact ih
      ·rw [if_pos (by omega),decide_eq_false hc,hr]; rfl
     rw [if_pos hb,xF (n:=l[i].b) rfl,zeP,beq_iff_eq.2 hb,XS]
     by_cases hll:l[i].b=la
     ·rw [if_pos hll,yi,← hll]
      have e3:QF .i64 (ru+1)=((za0 l[i].b (l.take i++[l[i]]):Nat):Int):=by
       rw [hi.ru,zX (by omega) (by omega),ziT,if_pos rfl,hll]; omega
      exact key _ e3
     ·rw [if_neg hll,xF (n:=l[i].b) rfl,yi]
      have e3:QF .i64 (((0:Int):Int)+1)=((za0 l[i].b (l.take i++[l[i]]):Nat):Int):=by
       rw [zX (by omega) (by omega),ziT,if_pos rfl,zCU (fun x hx=>by have:=hi.le x hx; omega)]; rfl
      exact key _ e3
    ·rw [if_neg hb,beq_eq_false_iff_ne.2 hb,hr]; rfl
  ·rw [zaO (by omega),WI (by omega),Xu (by omega)]; rfl
theorem zKA(L:Nat)(b:Bk)(l:List Plc)(hl:l.length≤1000)(hL:1000<L)(N:List Adr)(k:Bool→List (V × V)→List V→Option β)(R:Option β)(hr:∀ mp,k false mp b.v=R) :
  zO β (L+100) (yF l) (zdv N) b.v k=ifb (decide (l.length≤512)&&okA (tbf b.salt) N [] l) (k true (zdv (N++l.map Plc.a)) b.v) R:=by
 unfold zO zgV zke
 rw [zK,yM]
 by_cases h:l.length≤512
 ·rw [if_neg (by omega),decide_eq_true h,XS,show ((0:Int))=((0:Nat):Int) from rfl]
  have:=zGr L b l hl N (fun p6 b0 b1=>zeN zh (L+100) p6 b0 b1 k) (fun b0 b1=>zfc zh (L+100) b0 b1 k) R (fun mp=>hr mp) (L+100) 0 (-1) 0 (by omega) (by omega) ⟨by simp,rfl,.inl ⟨rfl,rfl⟩,by omega⟩
  rw [Yn,X0,Yg,Ya] at this
  exact this
 ·rw [if_pos (by omega),decide_eq_false h,hr]; rfl
def zyn(b:Bk):Bool:=(decide (b.H.length≤512)&&okA (hbf b.salt) [] [] b.H)&&(decide (b.T.length≤512)&&okA (tbf b.salt) (b.H.map Plc.a) [] b.T)
theorem zA6(L:Nat)(b:Bk)(hH:b.H.length≤1000)(hT:b.T.length≤1000)(hL:1000<L)(k:Bool→Option β):xq β (L+100) b.v k=k (zyn b):=by
 unfold xq zna zyn
 rw [yY b.g32]
 refine (zKo L b b.H hH hL [] _ (k false) (fun mp=>xa rfl _)).trans ?_
 rw [XD]
 cases (decide (b.H.length≤512)&&okA (hbf b.salt) [] [] b.H) with
 | false=>rfl
 | true=>
  rw [zef,xa rfl,zef,yY b.g33]
  refine (zKA L b b.T hT hL _ _ (k false) (fun mp=>xa rfl _)).trans ?_
  cases (decide (b.T.length≤512)&&okA (tbf b.salt) (b.H.map Plc.a) [] b.T) with
  | false=>rfl
  | true=>exact xa rfl _
theorem zKx(bk:Plc→Int)(N:List Adr)(pre:List Plc)(e:Plc):okS bk N pre e=(okS bk [] pre e&&!(N.any (fun a=>xz a e.a))):=by
 unfold okS
 simp [Ym]
theorem zI1(bk:Plc→Int)(N:List Adr):∀ (l pre:List Plc),okA bk N pre l=(okA bk [] pre l&&l.all (fun e=>!(N.any (fun a=>xz a e.a))))
 | [],pre=>rfl
 | e::l,pre=>by
  rw [okA,okA,zKx,zI1 bk N l,List.all_cons]
  cases okS bk [] pre e <;> cases (N.any (fun a=>xz a e.a)) <;> simp
theorem zIB(H T:List Plc):T.all (fun e=>!((H.map Plc.a).any (fun a=>xz a e.a)))=H.all (fun e=>!(T.any (fun x=>xz x.a e.a))):=by
 rw [Bool.eq_iff_iff]
 simp only [QN,Q8,X6,Xl,Yf,forall_exists_index,and_imp,forall_apply_eq_imp_iff₂]
 constructor
 ·intro h x hx e he; rw [zf0]; exact h e he x hx
 ·intro h x hx e he; rw [zf0]; exact h e he x hx
theorem zvl(b:Bk):zyn b=zdP b:=by
 unfold zyn zdP
 rw [zrM,zrM,zI1 (tbf b.salt) (b.H.map Plc.a),zIB]
 simp [Ym]
end
section
def xv(l:List Plc)(v:Int):Nat:=(l.takeWhile (fun x=>decide (x.b<v))).length
def toN(l:List Plc)(v:Int):Nat:=xv l v+((l.drop (xv l v)).takeWhile (fun x=>x.b==v)).length
def zgx(l:List Plc)(p:Plc):List Plc:=l.take (toN l p.b)++[p]++l.drop (toN l p.b)
def yQ(l:List Plc)(i:Nat):List Plc:=l.take i++l.drop (i+1)
def zIl(t:Int)(e:Plc):Plc:=⟨e.b,⟨e.a.h,e.a.p,zB6 e.a.t t⟩,e.s⟩
def zsD(l:List Plc)(i:Nat)(t:Int):List Plc:=l.modify i (zIl t)
def zvb(l:List Plc)(i:Nat):Int:=match l[i]? with | some e=>e.a.t | none=>0
def zcy(l:List Plc):Nat→Nat→Nat→Nat
 | 0,_,m=>m
 | n+1,i,m=>zcy l n (i+1) (if zvb l i<zvb l m then i else m)
def zeu(b:Bk)(a:Adr)(src:Int):Bk × Bool:=
 if zbw (fun x=>xz x.a a) b.T 0≥0 then (⟨b.salt,b.H,zsD b.T (zbw (fun x=>xz x.a a) b.T 0).toNat a.t,b.hs⟩,false)
 else if zbw (fun x=>xz x.a a) b.H 0≥0 then (⟨b.salt,zsD b.H (zbw (fun x=>xz x.a a) b.H 0).toNat a.t,b.T,b.hs⟩,false)
 else if toN b.H (hbk b.salt a src)-xv b.H (hbk b.salt a src)≥8 then
  (if zvb b.H (zcy b.H (toN b.H (hbk b.salt a src)-xv b.H (hbk b.salt a src)) (xv b.H (hbk b.salt a src)) (xv b.H (hbk b.salt a src)))≥a.t then (b,false)
   else (⟨b.salt,zgx (yQ b.H (zcy b.H (toN b.H (hbk b.salt a src)-xv b.H (hbk b.salt a src)) (xv b.H (hbk b.salt a src)) (xv b.H (hbk b.salt a src)))) ⟨hbk b.salt a src,a,src⟩,b.T,b.hs⟩,true))
 else (⟨b.salt,zgx b.H ⟨hbk b.salt a src,a,src⟩,b.T,b.hs⟩,true)
def zeG(b:Bk)(e:Plc):Plc:=⟨tbk b.salt e.a,e.a,e.s⟩
def zqw(b:Bk)(i:Nat)(e:Plc):Bk:=
 if toN b.T (tbk b.salt e.a)-xv b.T (tbk b.salt e.a)≥8 then
  (match b.T[xv b.T (tbk b.salt e.a)]? with
   | some o=>(zeu ⟨b.salt,yQ b.H i,zgx (yQ b.T (xv b.T (tbk b.salt e.a))) (zeG b e),b.hs⟩ o.a (grp o.a)).1
   | none=>b)
 else ⟨b.salt,yQ b.H i,zgx b.T (zeG b e),b.hs⟩
theorem Srt.split3{l:List Plc}(v:Int)(h:Srt l):∃ A B C:List Plc,l=A++(B++C)∧(∀ x∈A,x.b<v)∧(∀ x∈B,x.b=v)∧(∀ x∈C,v<x.b):=by
 induction l with
 | nil=>exact ⟨[],[],[],rfl,by simp,by simp,by simp⟩
 | cons x l ih=>
  have h':=Xs.1 h
  obtain ⟨A,B,C,rfl,hA,hB,hC⟩:=ih h'.2
  by_cases hx:x.b<v
  ·exact ⟨x::A,B,C,rfl,by simpa using ⟨hx,hA⟩,hB,hC⟩
  ·have eA:A=[]:=by
    cases A with
    | nil=>rfl
    | cons a A=>
     have h1:=hA a (by simp)
     have h2:=h'.1 a (by simp)
     omega
   subst eA
   by_cases hxv:x.b=v
   ·exact ⟨[],x::B,C,rfl,by simp,by simpa using ⟨hxv,hB⟩,hC⟩
   ·have eB:B=[]:=by
     cases B with
     | nil=>rfl
     | cons a B=>
      have h1:=hB a (by simp)
      have h2:=h'.1 a (by simp)
      omega
    subst eB
    exact ⟨[],[],x::C,rfl,by simp,by simp,by simpa using ⟨by omega,hC⟩⟩
theorem zrO{A B C:List Plc}{v:Int}(hA:∀ x∈A,x.b<v)(hB:∀ x∈B,x.b=v)(hC:∀ x∈C,v<x.b):xv (A++(B++C)) v=A.length:=by
 unfold xv
 rw [Yb (fun x hx=>decide_eq_true (hA x hx))]
 have:(B++C).takeWhile (fun x=>decide (x.b<v))=[]:=by
  cases B with
  | cons b B=>rw [List.cons_append,XW,if_neg (by have:=hB b (by simp); simp; omega)]
  | nil=>cases C with
   | nil=>rfl
   | cons c C=>rw [XD,XW,if_neg (by have:=hC c (by simp); simp; omega)]
 rw [this,Ya]
theorem zpJ{A B C:List Plc}{v:Int}(hA:∀ x∈A,x.b<v)(hB:∀ x∈B,x.b=v)(hC:∀ x∈C,v<x.b):toN (A++(B++C)) v=A.length+B.length:=by
 unfold toN
 rw [zrO hA hB hC,Yi rfl,Yb (fun x hx=>beq_iff_eq.2 (hB x hx))]
 have:C.takeWhile (fun x=>x.b==v)=[]:=by
  cases C with
  | nil=>rfl
  | cons c C=>rw [XW,if_neg (by have:=hC c (by simp); simp; omega)]
 rw [this,Ya]
theorem zxe{A B C:List Plc}{p:Plc}(hA:∀ x∈A,x.b<p.b)(hB:∀ x∈B,x.b=p.b)(hC:∀ x∈C,p.b<x.b):zgx (A++(B++C)) p=A++(B++(p::C)):=by
 unfold zgx
 rw [zpJ hA hB hC,← Wu,Yh (by simp),Yi (by simp)]
 simp
theorem zuH{l' l:List Plc}(h:l'.Sublist l)(v:Int):za0 v l'≤za0 v l:=(h.filter _).length_le
theorem TOk.sub{bk:Plc→Int}{N:List Adr}{l l':List Plc}(h:TOk bk N l)(hs:l'.Sublist l):TOk bk N l':=
 ⟨fun e he=>h.b e (hs.subset he),h.s.sublist hs,fun v=>QD (zuH hs v) (h.c v),h.n.sublist hs,fun e he=>h.f e (hs.subset he)⟩
theorem zcX(l:List Plc)(i:Nat):(yQ l i).Sublist l:=by
 unfold yQ
 rw [← List.eraseIdx_eq_take_drop_succ]
 exact List.eraseIdx_sublist l i
theorem zr4{l:List Plc}{p x:Plc}(h:x∈zgx l p):x=p∨x∈l:=by
 unfold zgx at h
 simp only [QC,List.mem_singleton] at h
 rcases h with (h | h) | h
 ·exact .inr (List.mem_of_mem_take h)
 ·exact .inl h
 ·exact .inr (List.mem_of_mem_drop h)
theorem TOk.ins{bk:Plc→Int}{N:List Adr}{l:List Plc}(h:TOk bk N l){p:Plc}(hb:p.b=bk p)(hc:za0 p.b l≤7)(hn:∀ x∈l,xz x.a p.a=false)(hf:∀ a∈N,xz a p.a=false):TOk bk N (zgx l p):=by
 obtain ⟨A,B,C,rfl,hA,hB,hC⟩:=h.s.split3 p.b
 have hs:=h.s
 have hnn:=h.n
 refine ⟨fun e he=>?_,?_,fun v=>?_,?_,fun e he=>?_⟩
 ·rcases zr4 he with rfl | he
  ·exact hb
  ·exact h.b e he
 ·rw [zxe hA hB hC]
  unfold Srt at hs ⊢
  simp only [Xr,Xs,QC,List.mem_cons] at hs ⊢
  obtain ⟨sA,⟨sB,sC,sBC⟩,sABC⟩:=hs
  refine ⟨sA,⟨sB,⟨fun c hc=>Int.le_of_lt (hC c hc),sC⟩,?_⟩,?_⟩
  ·rintro x hx y (rfl | hy)
   ·rw [hB x hx]; exact Yp _
   ·exact sBC x hx y hy
  ·rintro x hx y (hy | rfl | hy)
   ·exact sABC x hx y (.inl hy)
   ·exact Int.le_of_lt (hA x hx)
   ·exact sABC x hx y (.inr hy)
 ·have hv:=h.c v
  rw [zxe hA hB hC]
  have e:za0 v (A++(B++p::C))=za0 v (A++(B++C))+if p.b=v then 1 else 0:=by
   unfold za0
   simp only [XV,Wm,List.filter_cons,beq_iff_eq]
   split <;> simp <;> omega
  rw [e]
  split
  ·rename_i hp; rw [← hp]; omega
  ·omega
 ·rw [zxe hA hB hC]
  simp only [QC] at hn
  simp only [Xr,Xs,QC,List.mem_cons] at hnn ⊢
  obtain ⟨sA,⟨sB,sC,sBC⟩,sABC⟩:=hnn
  refine ⟨sA,⟨sB,⟨fun c hc=>by rw [zf0]; exact hn c (.inr (.inr hc)),sC⟩,?_⟩,?_⟩
  ·rintro x hx y (rfl | hy)
   ·exact hn x (.inr (.inl hx))
   ·exact sBC x hx y hy
  ·rintro x hx y (hy | rfl | hy)
   ·exact sABC x hx y (.inl hy)
   ·exact hn x (.inl hx)
   ·exact sABC x hx y (.inr hy)
 ·rcases zr4 he with rfl | he
  ·exact hf
  ·exact h.f e he
theorem zDT{bk:Plc→Int}{N:List Adr}{l:List Plc}(h:TOk bk N l)(v:Int):toN l v-xv l v=za0 v l:=by
 obtain ⟨A,B,C,rfl,hA,hB,hC⟩:=h.s.split3 v
 rw [zpJ hA hB hC,zrO hA hB hC]
 unfold za0
 rw [XV,XV,X3.2 (fun x hx=>by have:=hA x hx; simp; omega),Xf.2 (fun x hx=>by simp [hB x hx]),X3.2 (fun x hx=>by have:=hC x hx; simp; omega)]
 simp
theorem zkp(l:List Plc)(v:Int):xv l v≤toN l v∧toN l v≤l.length:=by
 unfold toN
 have h1:xv l v≤l.length:=by unfold xv; exact (Yj _).length_le
 have h2:=(Yj (fun x:Plc=>x.b==v) (l:=l.drop (xv l v))).length_le
 rw [List.length_drop] at h2
 omega
theorem zCL{bk:Plc→Int}{N:List Adr}{l:List Plc}(h:TOk bk N l){v:Int}{i:Nat}(h1:xv l v≤i)(h2:i<toN l v)(hi:i<l.length):l[i].b=v:=by
 obtain ⟨A,B,C,rfl,hA,hB,hC⟩:=h.s.split3 v
 rw [zpJ hA hB hC] at h2
 rw [zrO hA hB hC] at h1
 rw [Yc h1,Yd (by omega)]
 exact hB _ (W1 _)
theorem zFA{bk:Plc→Int}{N:List Adr}{l:List Plc}(h:TOk bk N l){i:Nat}(hi:i<l.length):za0 l[i].b (yQ l i)≤7:=by
 have key:∀ v,l[i].b=v→za0 v l=za0 v (yQ l i)+1:=by
  intro v hv
  have e:l=l.take i++(l[i]::l.drop (i+1)):=by rw [← WP hi,X8]
  refine (congrArg (za0 v) e).trans ?_
  unfold za0 yQ
  rw [XV,XV,List.filter_cons,if_pos (by simp [hv])]
  simp
  omega
 have hc:=h.c l[i].b
 have:=key _ rfl
 omega
def zcq(e:Plc):Int × Int × Int × Int:=(e.b,e.a.h,e.a.p,e.s)
theorem ztF{α β:Type}(f:α→α)(g:α→β)(h:∀ x,g (f x)=g x):∀ (l:List α) (i:Nat),(l.modify i f).map g=l.map g
 | [],i=>by cases i <;> rfl
 | x::l,0=>by simp [List.modify,h]
 | x::l,i+1=>by simpa using ztF f g h l i
theorem zsg(l:List Plc)(i:Nat)(t:Int):(zsD l i t).map zcq=l.map zcq:=ztF (zIl t) zcq (fun _=>rfl) l i
theorem zC3{x y x' y':Plc}(hx:zcq x=zcq x')(hy:zcq y=zcq y'):xz x.a y.a=xz x'.a y'.a:=by
 simp only [zcq,QL] at hx hy
 simp only [xz,hx.2.1,hx.2.2.1,hy.2.1,hy.2.2.1]
theorem zyc{l l':List Plc}(hk:l'.map zcq=l.map zcq){x:Plc}(hx:x∈l'):∃ y∈l,zcq y=zcq x:=by
 have:=List.mem_map_of_mem (f:=zcq) hx
 rw [hk] at this
 obtain ⟨y,h1,h2⟩:=Xl.1 this
 exact ⟨y,h1,h2⟩
theorem TOk.key{bk:Plc→Int}(hbk:∀ x y,zcq x=zcq y→bk x=bk y){l l':List Plc}(h:TOk bk [] l)(hk:l'.map zcq=l.map zcq):TOk bk [] l':=by
 refine ⟨fun e he=>?_,?_,fun v=>?_,?_,by simp⟩
 ·obtain ⟨y,h1,h2⟩:=zyc hk he
  have:=h.b y h1
  rw [← hbk y e h2,← this]
  simp only [zcq,QL] at h2
  exact h2.1.symm
 ·have h1:(l.map zcq).Pairwise (fun x y=>x.1≤y.1):=X7.2 h.s
  rw [← hk] at h1
  have h2:l'.Pairwise (fun x y=>(zcq x).1≤(zcq y).1):=(X7 (f:=zcq) (R:=fun x y=>x.1≤y.1)).1 h1
  exact h2
 ·have e:∀ m:List Plc,za0 v m=((m.map zcq).filter (fun x=>x.1==v)).length:=by
   intro m
   unfold za0
   rw [List.filter_map,List.length_map]
   rfl
  rw [e,hk,← e]; exact h.c v
 ·have h1:(l.map zcq).Pairwise (fun x y=>(x.2.1==y.2.1&&x.2.2.1==y.2.2.1)=false):=X7.2 h.n
  rw [← hk] at h1
  have h2:l'.Pairwise (fun x y=>((zcq x).2.1==(zcq y).2.1&&(zcq x).2.2.1==(zcq y).2.2.1)=false):=X7.1 h1
  exact h2
theorem zJm(s:List Int)(x y:Plc)(h:zcq x=zcq y):hbf s x=hbf s y:=by
 simp only [zcq,QL] at h
 simp only [hbf,hbk,grp,h.2.1,h.2.2.2]
theorem zJQ(s:List Int)(x y:Plc)(h:zcq x=zcq y):tbf s x=tbf s y:=by
 simp only [zcq,QL] at h
 simp only [tbf,tbk,grp,h.2.1,h.2.2.1]
structure SndB (b:Bk):Prop where
 h:TOk (hbf b.salt) [] b.H
 t:TOk (tbf b.salt) [] b.T
 d:∀ x∈b.H,∀ y∈b.T,xz y.a x.a=false
theorem zHy(l:List Plc):∀ (n:Nat) (l:List Plc),(∀ e∈l,0≤e.b∧e.b<n)→(∀ v,za0 v l≤8)→l.length≤8*n
 | 0,l,h,_=>by
  cases l with
  | nil=>simp
  | cons x l=>have:=h x (by simp); omega
 | n+1,l,h,hc=>by
  have ih:=zHy l n (l.filter (fun e=>!(e.b==(n:Int)))) (fun e he=>by
   have h1:=List.mem_filter.1 he
   have h2:=h e h1.1
   have h3:¬ e.b=n:=by simpa using h1.2
   omega) (fun v=>QD (zuH List.filter_sublist v) (hc v))
  have h1:=hc n
  have h2:l.length=(l.filter (fun e=>e.b==(n:Int))).length+(l.filter (fun e=>!(e.b==(n:Int)))).length:=by
   clear ih hc h h1
   induction l with
   | nil=>rfl
   | cons x l ih=>by_cases hx:x.b=n <;> simp [hx] <;> omega
  unfold za0 at h1
  omega
theorem TOk.len{bk:Plc→Int}{N:List Adr}{l:List Plc}(h:TOk bk N l)(hb:∀ e,0≤bk e∧bk e<64):l.length≤512:=
 zHy l 64 l (fun e he=>by have:=hb e; rw [h.b e he]; exact this) h.c
theorem SndB.lenH{b:Bk}(h:SndB b):b.H.length≤512:=h.h.len (zCE _)
theorem SndB.lenT{b:Bk}(h:SndB b):b.T.length≤512:=h.t.len (zCT _)
theorem ze7(b:Bk):zdP b=true↔SndB b:=by
 unfold zdP
 rw [zrM,zrM]
 simp only [Wg,decide_eq_true_eq,zBI _ _ _ _ (TOk.nil _ _),XD,QN,Q8,X6,Yf]
 constructor
 ·rintro ⟨⟨_,h1⟩,⟨_,h2⟩,h3⟩
  exact ⟨h1,h2,h3⟩
 ·intro h
  exact ⟨⟨h.lenH,h.h⟩,⟨h.lenT,h.t⟩,h.d⟩
theorem zCz{l:List Plc}{a:Adr}(h:¬ zbw (fun x=>xz x.a a) l 0≥0):∀ x∈l,xz x.a a=false:=by
 rcases znE (fun x:Plc=>xz x.a a) l 0 with ⟨h1,h2⟩ | ⟨j,hj,h1,h2,h3⟩
 ·exact h2
 ·omega
theorem zix(l:List Plc)(a z:Nat):∀ (n i m:Nat),a≤i→i+n≤z→a≤m→m<z→a≤zcy l n i m∧zcy l n i m<z
 | 0,i,m,_,_,h1,h2=>⟨h1,h2⟩
 | n+1,i,m,h0,h,h1,h2=>by
  rw [zcy]
  split
  ·exact zix l a z n (i+1) i (by omega) (by omega) (by omega) (by omega)
  ·exact zix l a z n (i+1) m (by omega) (by omega) h1 h2
theorem zxk{b:Bk}(h:SndB b)(a:Adr)(src:Int):SndB (zeu b a src).1:=by
 unfold zeu
 split
 ·refine ⟨h.h,h.t.key (zJQ _) (zsg _ _ _),fun x hx y hy=>?_⟩
  obtain ⟨z,h1,h2⟩:=zyc (zsg _ _ _) hy
  rw [← zC3 h2 (rfl:zcq x=zcq x)]
  exact h.d x hx z h1
 ·rename_i hT
  split
  ·refine ⟨h.h.key (zJm _) (zsg _ _ _),h.t,fun x hx y hy=>?_⟩
   obtain ⟨z,h1,h2⟩:=zyc (zsg _ _ _) hx
   rw [← zC3 (rfl:zcq y=zcq y) h2]
   exact h.d z h1 y hy
  ·rename_i hH
   have nT:=zCz hT
   have nH:=zCz hH
   have dd:∀ (l':List Plc),l'.Sublist b.H→∀ x∈zgx l' ⟨hbk b.salt a src,a,src⟩,∀ y∈b.T,xz y.a x.a=false:=by
    intro l' hl' x hx y hy
    rcases zr4 hx with rfl | hx
    ·exact nT y hy
    ·exact h.d x (hl'.subset hx) y hy
   split
   ·rename_i h8
    split
    ·exact h
    ·have hr:=zkp b.H (hbk b.salt a src)
     have hm:=zix b.H (xv b.H (hbk b.salt a src)) (toN b.H (hbk b.salt a src)) (toN b.H (hbk b.salt a src)-xv b.H (hbk b.salt a src)) (xv b.H (hbk b.salt a src)) (xv b.H (hbk b.salt a src)) (Wq _) (by omega) (Wq _) (by omega)
     generalize zcy b.H (toN b.H (hbk b.salt a src)-xv b.H (hbk b.salt a src)) (xv b.H (hbk b.salt a src)) (xv b.H (hbk b.salt a src))=m at hm ⊢
     have hml:m<b.H.length:=by omega
     have hc:=zFA h.h hml
     rw [zCL h.h hm.1 hm.2 hml] at hc
     exact ⟨(h.h.sub (zcX _ _)).ins rfl hc (fun x hx=>nH x ((zcX _ _).subset hx)) (by simp),h.t,dd _ (zcX _ _)⟩
   ·rename_i h8
    rw [zDT h.h] at h8
    exact ⟨h.h.ins rfl (by show za0 (hbk b.salt a src) b.H≤7; omega) nH (by simp),h.t,dd _ (List.Sublist.refl _)⟩
theorem zCX{l:List Plc}(h:l.Pairwise (fun x y=>xz x.a y.a=false)){i:Nat}(hi:i<l.length):∀ x∈yQ l i,xz x.a l[i].a=false:=by
 intro x hx
 have hp:=X4.1 h
 unfold yQ at hx
 rcases QC.1 hx with hx | hx
 ·obtain ⟨j,hj,rfl⟩:=XU.1 hx
  exact hp j i (by omega) hi (by omega)
 ·obtain ⟨j,hj,rfl⟩:=List.mem_drop_iff_getElem.1 hx
  rw [zf0]
  exact hp i (i+1+j) hi (by omega) (by omega)
theorem zKw(v:Int)(a:Adr)(s:Int):(⟨v,a,s⟩:Plc).b=v:=rfl
theorem zKt(v:Int)(a:Adr)(s:Int):(⟨v,a,s⟩:Plc).a=a:=rfl
theorem zsB(b:Bk)(e:Plc):(zeG b e).b=tbk b.salt e.a:=by unfold zeG; exact zKw _ _ _
theorem zqa(b:Bk)(e:Plc):(zeG b e).a=e.a:=by unfold zeG; exact zKt _ _ _
theorem zJc(s:List Int)(e:Plc):tbf s e=tbk s e.a:=by unfold tbf; rfl
theorem zwX{b:Bk}(h:SndB b){i:Nat}(hi:i<b.H.length):SndB (zqw b i b.H[i]):=by
 have hH:=h.h.sub (zcX b.H i)
 have hn:=zCX h.h.n hi
 have hd:∀ y∈b.T,xz y.a b.H[i].a=false:=fun y hy=>h.d _ (W1 hi) y hy
 have dd:∀ (l':List Plc),l'.Sublist b.T→∀ x∈yQ b.H i,∀ y∈zgx l' (zeG b b.H[i]),xz y.a x.a=false:=by
  intro l' hl' x hx y hy
  rcases zr4 hy with rfl | hy
  ·rw [zf0,zqa]; exact hn x hx
  ·exact h.d x ((zcX _ _).subset hx) y (hl'.subset hy)
 have hp:(zeG b b.H[i]).b=tbk b.salt b.H[i].a:=zsB _ _
 have hq:(zeG b b.H[i]).b=tbf b.salt (zeG b b.H[i]):=by rw [hp,zJc,zqa]
 unfold zqw
 split
 ·rename_i h8
  have hr:=zkp b.T (tbk b.salt b.H[i].a)
  have hl:xv b.T (tbk b.salt b.H[i].a)<b.T.length:=by omega
  rw [Wb hl]
  simp only
  refine zxk ⟨hH,?_,dd _ (zcX _ _)⟩ _ _
  have hc:=zFA h.t hl
  rw [zCL h.t (Wq _) (by omega) hl] at hc
  rw [← hp] at hc
  exact (h.t.sub (zcX _ _)).ins hq hc (fun x hx=>by rw [zqa]; exact hd x ((zcX _ _).subset hx)) (by simp)
 ·rename_i h8
  rw [zDT h.t,← hp] at h8
  exact ⟨hH,h.t.ins hq (by omega) (fun x hx=>by rw [zqa]; exact hd x hx) (by simp),dd _ (List.Sublist.refl _)⟩
def NnB(b:Bk):Prop:=(∀ e∈b.H,0≤e.a.h)∧∀ e∈b.T,0≤e.a.h
theorem zFj{l:List Plc}(h:∀ e∈l,0≤e.a.h)(i:Nat)(t:Int):∀ e∈zsD l i t,0≤e.a.h:=by
 intro e he
 obtain ⟨y,h1,h2⟩:=zyc (zsg _ _ _) he
 simp only [zcq,QL] at h2
 rw [← h2.2.1]; exact h y h1
theorem zAz{l:List Plc}(h:∀ e∈l,0≤e.a.h){p:Plc}(hp:0≤p.a.h):∀ e∈zgx l p,0≤e.a.h:=by
 intro e he
 rcases zr4 he with rfl | he
 ·exact hp
 ·exact h e he
theorem zAF{l:List Plc}(h:∀ e∈l,0≤e.a.h)(i:Nat):∀ e∈yQ l i,0≤e.a.h:=fun e he=>h e ((zcX _ _).subset he)
theorem zEz{b:Bk}(h:NnB b){a:Adr}(ha:0≤a.h)(src:Int):NnB (zeu b a src).1:=by
 unfold zeu
 split
 ·exact ⟨h.1,zFj h.2 _ _⟩
 ·split
  ·exact ⟨zFj h.1 _ _,h.2⟩
  ·split
   ·split
    ·exact h
    ·exact ⟨zAz (zAF h.1 _) ha,h.2⟩
   ·exact ⟨zAz h.1 ha,h.2⟩
theorem zIh{b:Bk}(h:NnB b){i:Nat}(hi:i<b.H.length):NnB (zqw b i b.H[i]):=by
 have hp:0≤(zeG b b.H[i]).a.h:=by rw [zqa]; exact h.1 _ (W1 hi)
 unfold zqw
 split
 ·split
  ·rename_i o ho
   exact zEz ⟨zAF h.1 _,zAz (zAF h.2 _) hp⟩ (h.2 o (List.mem_of_getElem? ho)) _
  ·exact h
 ·exact ⟨zAF h.1 _,zAz h.2 hp⟩
end
section
set_option maxRecDepth 100000
variable {β:Type}
def xn(l:List Plc):List V:=(yF l).flatten
theorem zs4(l:List Plc):∀ e∈yF l,e.length=5:=by
 intro e he
 obtain ⟨x,_,rfl⟩:=Xl.1 he
 rfl
theorem zak(l:List Plc):(xn l).length=l.length*5:=by
 unfold xn; rw [zaa (zs4 l),zK]
theorem zk7(l m:List Plc):xn (l++m)=xn l++xn m:=by simp [xn,yF]
theorem zzh{l:List Plc}{i:Nat}(hi:i<l.length):xn l=xn (l.take i)++(l[i].v++xn (l.drop (i+1))):=by
 have e:l=l.take i++(l[i]::l.drop (i+1)):=by rw [← WP hi,X8]
 refine (congrArg xn e).trans ?_
 rw [zk7]
 rfl
theorem zvz{l:List Plc}{i j:Nat}(hi:i<l.length)(hj:j≤5):(xn l).drop (i*5+j)=l[i].v.drop j++xn (l.drop (i+1)):=by
 rw [zzh hi]
 have e:(xn (l.take i)).length=i*5:=by rw [zak,Ww]; congr 1; omega
 rw [List.drop_append,e,WI (by omega),XD,show i*5+j-i*5=j by omega,Xv (by show j≤5; exact hj)]
theorem zqM{l:List Plc}{i j:Nat}(hi:i<l.length)(hj:j<5):(xn l)[i*5+j]?=l[i].v[j]?:=by
 have:=zvz hi (Nat.le_of_lt hj)
 rw [← Yk,this,← Yk]
 rw [List.head?_append]
 cases h:(l[i].v.drop j).head? with
 | some x=>rfl
 | none=>
  rw [Yk,List.getElem?_eq_none_iff] at h
  have:l[i].v.length=5:=rfl
  omega
theorem zzD{l:List Plc}{i:Nat}(hi:i<l.length):XK 3 (XL (i*5+1) (xn l))=l[i].a.v:=by
 rw [zvz hi (by omega)]; rfl
theorem zvy{l:List Plc}{i:Nat}(hi:i<l.length):XK 5 (XL (i*5) (xn l))=l[i].v:=by
 rw [show i*5=i*5+0 from rfl,zvz hi (by omega)]; rfl
theorem zHS(A B x:List V)(j:Nat):xd (A++B) (A.length+j) x=A++xd B j x:=by
 unfold xd
 rw [List.take_length_add_append,Nat.add_assoc,List.drop_length_add_append]
 simp
theorem ztL{l:List Plc}{i:Nat}(hi:i<l.length)(t:Int):xd (xn l) (i*5+3) [V.sc (.int .u32 (zB6 l[i].a.t t))]=xn (zsD l i t):=by
 have e:(xn (l.take i)).length=i*5:=by rw [zak,Ww]; congr 1; omega
 have eb:zsD l i t=l.take i++(zIl t l[i]::l.drop (i+1)):=by
  unfold zsD
  rw [List.modify_eq_take_cons_drop hi]
 rw [eb,zk7,zzh hi,← e,zHS]
 rfl
theorem za5(l:List Plc):ye 5 l.length (xn l)=yF l:=by
 have:=zxS (zs4 l) (w:=l.length) (by rw [zK]; exact Wq _)
 unfold xn
 rw [this,Xu (by rw [zK]; exact Wq _)]
theorem zz0(l:List Plc)(i:Nat)(t:Int):(zsD l i t).length=l.length:=by unfold zsD; simp
theorem zkQ{n:Nat}{l:List Plc}(h:n=l.length):ye 5 n (xn l)=yF l:=by subst h; exact za5 l
theorem zHe(L:Nat)(l:List Plc)(hl:l.length≤1000000)(v:Int)(kx:List (List V)→Int→Int→Option β):∀ (m i:Nat),i≤l.length→l.length-i<m →
  zdS L kx m (yF l) v (i:Int)=kx (yF l) v ((i+((l.drop i).takeWhile (fun x=>decide (x.b<v))).length:Nat):Int):=by
 intro m
 induction m with
 | zero=>intro i h1 h2; omega
 | succ m IH=>
  intro i h1 h2
  unfold zdS zio
  rw [zK]
  by_cases h:i<l.length
  ·rw [zaE (by omega),za4 (za1 h),xF (n:=l[i].b) rfl,yM,WP h,XW]
   by_cases hb:l[i].b<v
   ·rw [if_pos hb,if_pos (decide_eq_true hb),yi,y4 (by omega),X9]
    refine (IH (i+1) (by omega) (by omega)).trans ?_
    congr 2; omega
   ·rw [if_neg hb,if_neg (by simpa using hb)]; rfl
  ·rw [zaO (by omega),WI (by omega)]; rfl
theorem zJD(L:Nat)(l:List Plc)(hl:l.length≤1000000)(v f:Int)(kx:Int→Int→Option β):∀ (m i:Nat),i≤l.length→l.length-i<m →
  zdi L kx m (yF l) v f (i:Int)=kx f ((i+((l.drop i).takeWhile (fun x=>x.b==v)).length:Nat):Int):=by
 intro m
 induction m with
 | zero=>intro i h1 h2; omega
 | succ m IH=>
  intro i h1 h2
  unfold zdi zg1
  rw [zK]
  by_cases h:i<l.length
  ·rw [zaE (by omega),za4 (za1 h),xF (n:=l[i].b) rfl,yX,WP h,XW]
   by_cases hb:l[i].b=v
   ·rw [if_pos hb,if_pos (beq_iff_eq.2 hb),yi,y4 (by omega),X9]
    refine (IH (i+1) (by omega) (by omega)).trans ?_
    congr 2; omega
   ·rw [if_neg hb,if_neg (by simpa using hb)]; rfl
  ·rw [zaO (by omega),WI (by omega)]; rfl
theorem zEI(L:Nat)(l:List Plc)(hl:l.length≤1000000)(hL:l.length<L)(v:Int)(k:Int→Int→Option β):yU β L (yF l) v k=k ((xv l v:Nat):Int) ((toN l v:Nat):Int):=by
 have hf:=zkp l v
 unfold yU zie zmw
 rw [show ((0:Int))=((0:Nat):Int) from rfl]
 refine (zHe L l hl v _ L 0 (by omega) (by omega)).trans ?_
 rw [X0,WB]
 refine (zJD L l hl v _ _ L (xv l v) (by omega) (by omega)).trans ?_
 rfl
theorem cBk{l:List Plc}{j:Nat}(h:j<l.length)(k:Int→Option β):cI .i64 (xn l) (0+XJ (j:Int)*5+0) k=k l[j].b:=by
 rw [show 0+XJ (j:Int)*5+0=j*5+0 by rw [XT]; omega]
 refine xF ?_ k
 rw [zqM h (by omega)]; rfl
theorem zIz(L:Nat)(l:List Plc)(hl:l.length≤1000000)(v:Int)(kx:Nat→Int→Int→List V→Option β):∀ (m i:Nat),i≤l.length→l.length-i<m →
  ze8 L kx m l.length v (i:Int) (xn l)=kx l.length v ((i+((l.drop i).takeWhile (fun x=>decide (x.b<v))).length:Nat):Int) (xn l):=by
 intro m
 induction m with
 | zero=>intro i h1 h2; omega
 | succ m IH=>
  intro i h1 h2
  unfold ze8 zkY
  by_cases h:i<l.length
  ·rw [zaE (by omega),xa (by omega),cBk h,yM,WP h,XW]
   by_cases hb:l[i].b<v
   ·rw [if_pos hb,if_pos (decide_eq_true hb),yi,y4 (by omega),X9]
    refine (IH (i+1) (by omega) (by omega)).trans ?_
    congr 2; omega
   ·rw [if_neg hb,if_neg (by simpa using hb)]; rfl
  ·rw [zaO (by omega),WI (by omega)]; rfl
theorem zJ2(L:Nat)(l:List Plc)(hl:l.length≤1000000)(v f:Int)(kx:Int→Int→List V→Option β):∀ (m i:Nat),i≤l.length→l.length-i<m →
  zed L kx m l.length v f (i:Int) (xn l)=kx f ((i+((l.drop i).takeWhile (fun x=>x.b==v)).length:Nat):Int) (xn l):=by
 intro m
 induction m with
 | zero=>intro i h1 h2; omega
 | succ m IH=>
  intro i h1 h2
  unfold zed zjp
  by_cases h:i<l.length
  ·rw [zaE (by omega),xa (by omega),cBk h,yX,WP h,XW]
   by_cases hb:l[i].b=v
   ·rw [if_pos hb,if_pos (beq_iff_eq.2 hb),yi,y4 (by omega),X9]
    refine (IH (i+1) (by omega) (by omega)).trans ?_
    congr 2; omega
   ·rw [if_neg hb,if_neg (by simpa using hb)]; rfl
  ·rw [zaO (by omega),WI (by omega)]; rfl
theorem zCA(L:Nat)(l:List Plc)(hl:l.length≤1000000)(hL:l.length<L)(v:Int)(k:Int→Int→List V→Option β):yj β L l.length v (xn l) k=k ((xv l v:Nat):Int) ((toN l v:Nat):Int) (xn l):=by
 have hf:=zkp l v
 unfold yj zlZ zpE
 rw [show ((0:Int))=((0:Nat):Int) from rfl]
 refine (zIz L l hl v _ L 0 (by omega) (by omega)).trans ?_
 rw [X0,WB]
 refine (zJ2 L l hl v _ _ L (xv l v) (by omega) (by omega)).trans ?_
 rfl
theorem zt8{n m:Nat}(h:n≤1000000)(hm:m≤1000000):(n+m)*24≤yr∧n+m≤yr:=by
 simp only [yr]; omega
theorem ztv(l:List Plc)(i:Nat):(yF l).take i=yF (l.take i):=by simp [yF,List.map_take]
theorem zC0(l:List Plc)(i:Nat):(yF l).drop i=yF (l.drop i):=by simp [yF,List.map_drop]
theorem zJG(p:Plc):ye 5 1 (xd [(Qe (0:Int)),(Qc (0:Int)),(Qb (0:Int)),(Qc (0:Int)),(Qc (0:Int))] 0 p.v)=yF [p]:=by
 rw [znH (by rfl)]; rfl
theorem zHL(l:List Plc)(i:Nat):XK (l.length-i) (XL i l)=XL i l:=Xu (by simp)
theorem ztp(L:Nat)(l:List Plc)(hl:l.length≤900000)(hL:l.length<L)(p:Plc)(k:List (List V)→Option β):zi β L (yF l) p.v k=k (yF (zgx l p)):=by
 have hf:=zkp l p.b
 have e1:XK 5 p.v=p.v:=rfl
 unfold zi zpO
 rw [xF (n:=p.b) rfl,zEI L l (by omega) hL,zK,xa (by omega),X5,XT,X0,ztv,zK,xa (zt8 (by simp) (by simp; omega)),yi,XD,xa (by show 0+5≤5; omega),e1,xa ⟨rfl,by omega⟩,zJG,zK,zK,xa (zt8 (by simp; omega) (by simp)),yi,zzR,xa (by omega),zC0,ztv,zK,zK,xa (zt8 (by simp; omega) (by simp; omega)),yi,zzR,zHL]
 rfl
theorem zJb{n:Nat}{l:List Plc}(h:n≤l.length):ye 5 n (xn l)=yF (l.take n):=by
 unfold xn
 rw [zxS (zs4 l) (w:=n) (by rw [zK]; exact h),ztv]
theorem zES{i:Nat}{l:List Plc}(h:i≤l.length):XL (i*5) (xn l)=xn (l.drop i):=by
 have e:xn l=xn (l.take i)++xn (l.drop i):=by rw [← zk7,X8]
 have e':(xn (l.take i)).length=i*5:=by rw [zak,Ww]; congr 1; omega
 rw [e,Xv (by omega),WI (by omega),XD]
theorem zI9{i:Nat}{l:List Plc}(h:i≤l.length):ye 5 (l.length-i) (XL (0+i*5) (xn l))=yF (l.drop i):=by
 rw [WB,zES h]; exact zkQ (by simp)
theorem zEa(c:Bool)(a:Option β):ifb c a a=a:=by cases c <;> rfl
theorem ztw(L:Nat)(l:List Plc)(hl:l.length≤900000)(i:Nat)(hi:i<l.length)(k:List (List V)→List V→Option β):yg β L l.length (i:Int) (xn l) k=k (yF (yQ l i)) (xn l):=by
 unfold yg zpM
 rw [xa (by omega),X5,XT,zJb (by omega),zK,xa (zt8 (by simp) (by simp; omega)),yi,XD,yi,y4 (by omega),xa (by omega),XT,zI9 (by omega),zK,zK,xa (zt8 (by simp; omega) (by simp; omega)),yi,zzR]
 rfl
theorem zFP(L:Nat)(ps:List Plc)(hp:ps.length≤1000000)(a:Adr)(kr:Int→List V→Option β)(kx:List V→Option β)(k:Int→List V→Option β)(hr:∀ i b,kr i b=k i b)(hx:∀ b,kx b=k (-1) b):∀ (m i:Nat),i≤ps.length→ps.length-i<m →
  zeI zf L kr kx m ps.length (i:Int) (xn ps) a.v=k (zbw (fun e=>xz e.a a) (ps.drop i) i) (xn ps):=by
 intro m
 induction m with
 | zero=>intro i h1 h2; omega
 | succ m IH=>
  intro i h1 h2
  unfold zeI zj8
  by_cases h:i<ps.length
  ·have e1:0+XJ (i:Int)*5+1=i*5+1:=by rw [XT]; omega
   rw [zaE (by omega),xa (by omega),e1,xa (by rw [zak]; omega),xa (by show 0+3≤3; omega),zzD h,zbi,zFs,WP h,zbw,yi,y4 (by omega)]
   have ih:=IH (i+1) (by omega) (by omega)
   cases xz ps[i].a a with
   | true=>exact hr _ _
   | false=>exact ih
  ·rw [zaO (by omega),WI (by omega),hx]; rfl
theorem zEh(L:Nat)(ps:List Plc)(hp:ps.length≤1000000)(hL:ps.length<L)(a:Adr)(k:Int→List V→Option β):zm β L ps.length a.v (xn ps) k=k (zbw (fun e=>xz e.a a) ps 0) (xn ps):=by
 unfold zm zki zoB
 rw [show ((0:Int))=((0:Nat):Int) from rfl]
 refine (zFP L ps hp a _ _ k (fun _ _=>rfl) (fun _=>rfl) L 0 (by omega) (by omega)).trans ?_
 rfl
theorem zb(b:Bk)(j:Nat)(h:j<32)(k:Int→Option β):cI .u8 b.v j k=k (b.salt.getD j 0):=by
 refine xF ?_ k
 have hs:=b.hs
 rw [Bk.v,Wv (by rw [zbo]; omega),row,List.getElem?_map,List.getD_eq_getElem?_getD,Wb (by omega)]
 rfl
theorem zIi:∀ (s:List Int),s.length=32→row .u8 s=[V.sc (.int .u8 (s.getD 0 0)),V.sc (.int .u8 (s.getD 1 0)),V.sc (.int .u8 (s.getD 2 0)),V.sc (.int .u8 (s.getD 3 0)),V.sc (.int .u8 (s.getD 4 0)),V.sc (.int .u8 (s.getD 5 0)),V.sc (.int .u8 (s.getD 6 0)),V.sc (.int .u8 (s.getD 7 0)),V.sc (.int .u8 (s.getD 8 0)),V.sc (.int .u8 (s.getD 9 0)),V.sc (.int .u8 (s.getD 10 0)),V.sc (.int .u8 (s.getD 11 0)),V.sc (.int .u8 (s.getD 12 0)),V.sc (.int .u8 (s.getD 13 0)),V.sc (.int .u8 (s.getD 14 0)),V.sc (.int .u8 (s.getD 15 0)),V.sc (.int .u8 (s.getD 16 0)),V.sc (.int .u8 (s.getD 17 0)),V.sc (.int .u8 (s.getD 18 0)),V.sc (.int .u8 (s.getD 19 0)),V.sc (.int .u8 (s.getD 20 0)),V.sc (.int .u8 (s.getD 21 0)),V.sc (.int .u8 (s.getD 22 0)),V.sc (.int .u8 (s.getD 23 0)),V.sc (.int .u8 (s.getD 24 0)),V.sc (.int .u8 (s.getD 25 0)),V.sc (.int .u8 (s.getD 26 0)),V.sc (.int .u8 (s.getD 27 0)),V.sc (.int .u8 (s.getD 28 0)),V.sc (.int .u8 (s.getD 29 0)),V.sc (.int .u8 (s.getD 30 0)),V.sc (.int .u8 (s.getD 31 0))]
 | [x0,x1,x2,x3,x4,x5,x6,x7,x8,x9,x10,x11,x12,x13,x14,x15,x16,x17,x18,x19,x20,x21,x22,x23,x24,x25,x26,x27,x28,x29,x30,x31],_=>rfl
theorem Bk.cells(b:Bk):[V.sc (.int .u8 (b.salt.getD 0 0)),V.sc (.int .u8 (b.salt.getD 1 0)),V.sc (.int .u8 (b.salt.getD 2 0)),V.sc (.int .u8 (b.salt.getD 3 0)),V.sc (.int .u8 (b.salt.getD 4 0)),V.sc (.int .u8 (b.salt.getD 5 0)),V.sc (.int .u8 (b.salt.getD 6 0)),V.sc (.int .u8 (b.salt.getD 7 0)),V.sc (.int .u8 (b.salt.getD 8 0)),V.sc (.int .u8 (b.salt.getD 9 0)),V.sc (.int .u8 (b.salt.getD 10 0)),V.sc (.int .u8 (b.salt.getD 11 0)),V.sc (.int .u8 (b.salt.getD 12 0)),V.sc (.int .u8 (b.salt.getD 13 0)),V.sc (.int .u8 (b.salt.getD 14 0)),V.sc (.int .u8 (b.salt.getD 15 0)),V.sc (.int .u8 (b.salt.getD 16 0)),V.sc (.int .u8 (b.salt.getD 17 0)),V.sc (.int .u8 (b.salt.getD 18 0)),V.sc (.int .u8 (b.salt.getD 19 0)),V.sc (.int .u8 (b.salt.getD 20 0)),V.sc (.int .u8 (b.salt.getD 21 0)),V.sc (.int .u8 (b.salt.getD 22 0)),V.sc (.int .u8 (b.salt.getD 23 0)),V.sc (.int .u8 (b.salt.getD 24 0)),V.sc (.int .u8 (b.salt.getD 25 0)),V.sc (.int .u8 (b.salt.getD 26 0)),V.sc (.int .u8 (b.salt.getD 27 0)),V.sc (.int .u8 (b.salt.getD 28 0)),V.sc (.int .u8 (b.salt.getD 29 0)),V.sc (.int .u8 (b.salt.getD 30 0)),V.sc (.int .u8 (b.salt.getD 31 0))]=row .u8 b.salt:=(zIi b.salt b.hs).symm
theorem Bk.mk_v(b:Bk)(x y:List (List V)):[V.sc (.int .u8 (b.salt.getD 0 0)),V.sc (.int .u8 (b.salt.getD 1 0)),V.sc (.int .u8 (b.salt.getD 2 0)),V.sc (.int .u8 (b.salt.getD 3 0)),V.sc (.int .u8 (b.salt.getD 4 0)),V.sc (.int .u8 (b.salt.getD 5 0)),V.sc (.int .u8 (b.salt.getD 6 0)),V.sc (.int .u8 (b.salt.getD 7 0)),V.sc (.int .u8 (b.salt.getD 8 0)),V.sc (.int .u8 (b.salt.getD 9 0)),V.sc (.int .u8 (b.salt.getD 10 0)),V.sc (.int .u8 (b.salt.getD 11 0)),V.sc (.int .u8 (b.salt.getD 12 0)),V.sc (.int .u8 (b.salt.getD 13 0)),V.sc (.int .u8 (b.salt.getD 14 0)),V.sc (.int .u8 (b.salt.getD 15 0)),V.sc (.int .u8 (b.salt.getD 16 0)),V.sc (.int .u8 (b.salt.getD 17 0)),V.sc (.int .u8 (b.salt.getD 18 0)),V.sc (.int .u8 (b.salt.getD 19 0)),V.sc (.int .u8 (b.salt.getD 20 0)),V.sc (.int .u8 (b.salt.getD 21 0)),V.sc (.int .u8 (b.salt.getD 22 0)),V.sc (.int .u8 (b.salt.getD 23 0)),V.sc (.int .u8 (b.salt.getD 24 0)),V.sc (.int .u8 (b.salt.getD 25 0)),V.sc (.int .u8 (b.salt.getD 26 0)),V.sc (.int .u8 (b.salt.getD 27 0)),V.sc (.int .u8 (b.salt.getD 28 0)),V.sc (.int .u8 (b.salt.getD 29 0)),V.sc (.int .u8 (b.salt.getD 30 0)),V.sc (.int .u8 (b.salt.getD 31 0)),(V.sl 5 x),(V.sl 5 y)]=row .u8 b.salt++[.sl 5 x,.sl 5 y]:=by
 rw [← b.cells]; rfl
theorem zge(L:Nat)(b:Bk)(hH:b.H.length≤1000000)(hT:b.T.length≤1000000)(k:zmu β):xe β L b.v k=k (b.salt.getD 0 0) (b.salt.getD 1 0) (b.salt.getD 2 0) (b.salt.getD 3 0) (b.salt.getD 4 0) (b.salt.getD 5 0) (b.salt.getD 6 0) (b.salt.getD 7 0) (b.salt.getD 8 0) (b.salt.getD 9 0) (b.salt.getD 10 0) (b.salt.getD 11 0) (b.salt.getD 12 0) (b.salt.getD 13 0) (b.salt.getD 14 0) (b.salt.getD 15 0) (b.salt.getD 16 0) (b.salt.getD 17 0) (b.salt.getD 18 0) (b.salt.getD 19 0) (b.salt.getD 20 0) (b.salt.getD 21 0) (b.salt.getD 22 0) (b.salt.getD 23 0) (b.salt.getD 24 0) (b.salt.getD 25 0) (b.salt.getD 26 0) (b.salt.getD 27 0) (b.salt.getD 28 0) (b.salt.getD 29 0) (b.salt.getD 30 0) (b.salt.getD 31 0) b.H.length b.T.length (xn b.H) (xn b.T):=by
 unfold xe zp5
 rw [xa b.len,zb b 0 (by omega),zb b 1 (by omega),zb b 2 (by omega),zb b 3 (by omega),zb b 4 (by omega),zb b 5 (by omega),zb b 6 (by omega),zb b 7 (by omega),zb b 8 (by omega),zb b 9 (by omega),zb b 10 (by omega),zb b 11 (by omega),zb b 12 (by omega),zb b 13 (by omega),zb b 14 (by omega),zb b 15 (by omega),zb b 16 (by omega),zb b 17 (by omega),zb b 18 (by omega),zb b 19 (by omega),zb b 20 (by omega),zb b 21 (by omega),zb b 22 (by omega),zb b 23 (by omega),zb b 24 (by omega),zb b 25 (by omega),zb b 26 (by omega),zb b 27 (by omega),zb b 28 (by omega),zb b 29 (by omega),zb b 30 (by omega),zb b 31 (by omega)]
 have g1:∀ k:List (List V)→Option β,cL 5 b.v 32 k=k (yF b.H):=znC b.g32
 have g2:∀ k:List (List V)→Option β,cL 5 b.v 33 k=k (yF b.T):=znC b.g33
 rw [g1,g2,zK,zK,xa (zt8 (by simp) hH),xa (zt8 (by simp) hT)]
 rfl
end
section
set_option maxRecDepth 100000
variable {β:Type}
theorem zpS{l:List Plc}{a:Adr}(h:zbw (fun x=>xz x.a a) l 0≥0):∃ j:Nat,j<l.length∧zbw (fun x=>xz x.a a) l 0=(j:Int):=by
 rcases znE (fun x:Plc=>xz x.a a) l 0 with ⟨h1,h2⟩ | ⟨j,hj,h1,h2,h3⟩
 ·omega
 ·exact ⟨j,hj,by rw [h1,WB]⟩
theorem at3(j:Nat):0+XJ (j:Int)*5+1+2=j*5+3:=by rw [XT]; omega
theorem cT{l:List Plc}{j:Nat}(h:j<l.length)(k:Int→Option β):cI .u32 (xn l) (j*5+3) k=k l[j].a.t:=by
 refine xF ?_ k
 rw [zqM h (by omega)]; rfl
theorem zhB{l:List Plc}{j:Nat}(h:j<l.length):zvb l j=l[j].a.t:=by
 unfold zvb; rw [Wb h]
theorem zDK(v:Int)(a:Adr)(s:Int):xd [(Qe (0:Int)),(Qc (0:Int)),(Qb (0:Int)),(Qc (0:Int)),(Qc (0:Int))] 0 (xd (xd [(Qe v),(Qc (0:Int)),(Qb (0:Int)),(Qc (0:Int)),(Qc (0:Int))] 1 a.v) 4 [(Qc s)])=(⟨v,a,s⟩:Plc).v:=rfl
theorem zmO(p:Plc):XK 5 p.v=p.v:=rfl
theorem zFS(L:Nat)(b:Bk)(hH:b.H.length≤1000000)(z:Nat)(hz:z≤b.H.length)(b4 p:List V)(tl:Nat)(tf:List V)(kx:zpW β):∀ (m i c:Nat),i≤z→z-i<m→c<b.H.length →
  zcH xe zm xb yj zi yg L kx m (z:Int) (c:Int) (i:Int) b4 0 0 0 0 0 0 0 0 0 0 0 0 0 0 0 0 0 0 0 0 0 0 0 0 0 0 0 0 0 0 0 0 [] [] (b.salt.getD 0 0) (b.salt.getD 1 0) (b.salt.getD 2 0) (b.salt.getD 3 0) (b.salt.getD 4 0) (b.salt.getD 5 0) (b.salt.getD 6 0) (b.salt.getD 7 0) (b.salt.getD 8 0) (b.salt.getD 9 0) (b.salt.getD 10 0) (b.salt.getD 11 0) (b.salt.getD 12 0) (b.salt.getD 13 0) (b.salt.getD 14 0) (b.salt.getD 15 0) (b.salt.getD 16 0) (b.salt.getD 17 0) (b.salt.getD 18 0) (b.salt.getD 19 0) (b.salt.getD 20 0) (b.salt.getD 21 0) (b.salt.getD 22 0) (b.salt.getD 23 0) (b.salt.getD 24 0) (b.salt.getD 25 0) (b.salt.getD 26 0) (b.salt.getD 27 0) (b.salt.getD 28 0) (b.salt.getD 29 0) (b.salt.getD 30 0) (b.salt.getD 31 0) b.H.length tl p (xn b.H) tf
   = kx ((zcy b.H (z-i) i c:Nat):Int) b4 0 0 0 0 0 0 0 0 0 0 0 0 0 0 0 0 0 0 0 0 0 0 0 0 0 0 0 0 0 0 0 0 [] [] (b.salt.getD 0 0) (b.salt.getD 1 0) (b.salt.getD 2 0) (b.salt.getD 3 0) (b.salt.getD 4 0) (b.salt.getD 5 0) (b.salt.getD 6 0) (b.salt.getD 7 0) (b.salt.getD 8 0) (b.salt.getD 9 0) (b.salt.getD 10 0) (b.salt.getD 11 0) (b.salt.getD 12 0) (b.salt.getD 13 0) (b.salt.getD 14 0) (b.salt.getD 15 0) (b.salt.getD 16 0) (b.salt.getD 17 0) (b.salt.getD 18 0) (b.salt.getD 19 0) (b.salt.getD 20 0) (b.salt.getD 21 0) (b.salt.getD 22 0) (b.salt.getD 23 0) (b.salt.getD 24 0) (b.salt.getD 25 0) (b.salt.getD 26 0) (b.salt.getD 27 0) (b.salt.getD 28 0) (b.salt.getD 29 0) (b.salt.getD 30 0) (b.salt.getD 31 0) b.H.length tl p (xn b.H) tf:=by
 intro m
 induction m with
 | zero=>intro i c h1 h2 h3; omega
 | succ m IH=>
  intro i c h1 h2 h3
  unfold zcH zf2
  by_cases h:i<z
  ·have hi:i<b.H.length:=by omega
   rw [zaE (by omega),xa (by omega),at3,cT hi,xa (by omega),at3,cT h3,yM,show z-i=(z-(i+1))+1 by omega,zcy,zhB hi,zhB h3]
   by_cases ht:b.H[i].a.t<b.H[c].a.t
   ·rw [if_pos ht,if_pos ht,yi,y4 (by omega)]
    exact IH (i+1) i (by omega) (by omega) hi
   ·rw [if_neg ht,if_neg ht,yi,y4 (by omega)]
    exact IH (i+1) c (by omega) (by omega) h3
  ·rw [zaO (by omega),show z-i=0 by omega]; rfl
theorem Bk.v_mk(b:Bk)(H T:List Plc):row .u8 b.salt++[V.sl 5 (yF H),V.sl 5 (yF T)]=(⟨b.salt,H,T,b.hs⟩:Bk).v:=rfl
theorem zFq(L:Nat)(hL:200000<L)(b:Bk)(hH:b.H.length≤100000)(hT:b.T.length≤100000)(a:Adr)(src:Int)(k:List V→Bool→Option β):zM β (L+100) b.v a.v src k=k (zeu b a src).1.v (zeu b a src).2:=by
 unfold zM zoV zsw
 rw [xa (by rw [b.len]; omega),b.take,b.dem,zge _ b (by omega) (by omega),xa (by show 0+3≤3; omega),zbi,zEh _ b.T (by omega) (by omega),xa rfl,yM]
 unfold zeu
 by_cases h:zbw (fun x=>xz x.a a) b.T 0≥0
 ·obtain ⟨j,hj,e⟩:=zpS h
  rw [if_pos h,if_pos h,e,xa (by omega),at3,cT hj,xF (n:=a.t) rfl,yi,xa (by omega),xa ⟨rfl,by rw [zak]; omega⟩,yi,ztL hj,za5,zkQ (zz0 _ _ _).symm,b.mk_v,b.v_mk,XT]
 ·rw [if_neg h,if_neg h,xa (by show 0+3≤3; omega),zEh _ b.H (by omega) (by omega),xa rfl,yM]
  by_cases h':zbw (fun x=>xz x.a a) b.H 0≥0
  ·obtain ⟨j,hj,e⟩:=zpS h'
   rw [if_pos h',if_pos h',e,xa (by omega),at3,cT hj,xF (n:=a.t) rfl,yi,xa (by omega),xa ⟨rfl,by rw [zak]; omega⟩,yi,ztL hj,za5,zkQ (zz0 _ _ _).symm,b.mk_v,b.v_mk,XT]
  ·rw [if_neg h',if_neg h',xa (by rw [b.len]; omega),xa (by show 0+3≤3; omega),b.t32,zIW L b.salt b.hs]
   generalize hbk b.salt a src=v
   have hr:=zkp b.H v
   rw [xa (by show 0+3≤3; omega),xa ⟨rfl,by omega⟩,xa (by show 1=1∧4+1≤5; omega),xa ⟨rfl,by omega⟩,zDK,yi,xF (n:=v) rfl]
   rw [zCA _ b.H (by omega) (by omega),xa rfl,yi,zX (by omega) (by omega),yM]
   by_cases h8:toN b.H v-xv b.H v≥8
   ·rw [if_pos (by omega),if_pos h8]
    refine (zFS (L+100) b (by omega) (toN b.H v) hr.2 a.v _ _ _ _ (L+100) (xv b.H v) (xv b.H v) hr.1 (by omega) (by omega)).trans ?_
    have hm:=zix b.H (xv b.H v) (toN b.H v) (toN b.H v-xv b.H v) (xv b.H v) (xv b.H v) (Wq _) (by omega) (Wq _) (by omega)
    generalize zcy b.H (toN b.H v-xv b.H v) (xv b.H v) (xv b.H v)=m at hm ⊢
    have hml:m<b.H.length:=by omega
    unfold zff
    rw [xa (by omega),at3,cT hml,xF (n:=a.t) rfl,yM,zhB hml]
    by_cases ht:b.H[m].a.t≥a.t
    ·rw [if_pos ht,if_pos ht,za5,za5,b.mk_v,b.v_mk]
    ·have hlr:(yQ b.H m).length≤b.H.length:=(zcX _ _).length_le
     rw [if_neg ht,if_neg ht,ztw _ b.H (by omega) m hml,xa rfl,xa (by show 0+5≤5; omega),zmO,ztp _ (yQ b.H m) (by omega) (by omega),za5,b.mk_v,b.v_mk]
   ·rw [if_neg (by omega),if_neg h8,xa (by show 0+5≤5; omega),zmO,zEa,za5,ztp _ b.H (by omega) (by omega),za5,b.mk_v,b.v_mk]
end
section
set_option maxRecDepth 100000
variable {β:Type}
def bk0:Bk:=⟨We 32 0,[],[],by rfl⟩
theorem zvq:We 32 (Qa (0:Int))++[(V.sl 5 ([]:List (List V))),(V.sl 5 ([]:List (List V)))]=bk0.v:=rfl
theorem zG9(b:Bk)(k:List V→Int→Option β):chk (XI b.v=34) (cI .u8 b.v 0 fun v0=>cI .u8 b.v 1 fun v1=>cI .u8 b.v 2 fun v2=>cI .u8 b.v 3 fun v3=>cI .u8 b.v 4 fun v4=>cI .u8 b.v 5 fun v5=>cI .u8 b.v 6 fun v6=>cI .u8 b.v 7 fun v7=>cI .u8 b.v 8 fun v8=>cI .u8 b.v 9 fun v9=>cI .u8 b.v 10 fun v10=>cI .u8 b.v 11 fun v11=>cI .u8 b.v 12 fun v12=>cI .u8 b.v 13 fun v13=>cI .u8 b.v 14 fun v14=>cI .u8 b.v 15 fun v15=>cI .u8 b.v 16 fun v16=>cI .u8 b.v 17 fun v17=>cI .u8 b.v 18 fun v18=>cI .u8 b.v 19 fun v19=>cI .u8 b.v 20 fun v20=>cI .u8 b.v 21 fun v21=>cI .u8 b.v 22 fun v22=>cI .u8 b.v 23 fun v23=>cI .u8 b.v 24 fun v24=>cI .u8 b.v 25 fun v25=>cI .u8 b.v 26 fun v26=>cI .u8 b.v 27 fun v27=>cI .u8 b.v 28 fun v28=>cI .u8 b.v 29 fun v29=>cI .u8 b.v 30 fun v30=>cI .u8 b.v 31 fun v31=>cL 5 b.v 32 fun v32=>cL 5 b.v 33 fun v33=>k [V.sc (.int .u8 v0),V.sc (.int .u8 v1),V.sc (.int .u8 v2),V.sc (.int .u8 v3),V.sc (.int .u8 v4),V.sc (.int .u8 v5),V.sc (.int .u8 v6),V.sc (.int .u8 v7),V.sc (.int .u8 v8),V.sc (.int .u8 v9),V.sc (.int .u8 v10),V.sc (.int .u8 v11),V.sc (.int .u8 v12),V.sc (.int .u8 v13),V.sc (.int .u8 v14),V.sc (.int .u8 v15),V.sc (.int .u8 v16),V.sc (.int .u8 v17),V.sc (.int .u8 v18),V.sc (.int .u8 v19),V.sc (.int .u8 v20),V.sc (.int .u8 v21),V.sc (.int .u8 v22),V.sc (.int .u8 v23),V.sc (.int .u8 v24),V.sc (.int .u8 v25),V.sc (.int .u8 v26),V.sc (.int .u8 v27),V.sc (.int .u8 v28),V.sc (.int .u8 v29),V.sc (.int .u8 v30),V.sc (.int .u8 v31),(V.sl 5 v32),(V.sl 5 v33)] (0:Int))=k b.v 0:=by
 rw [xa b.len,zb b 0 (by omega),zb b 1 (by omega),zb b 2 (by omega),zb b 3 (by omega),zb b 4 (by omega),zb b 5 (by omega),zb b 6 (by omega),zb b 7 (by omega),zb b 8 (by omega),zb b 9 (by omega),zb b 10 (by omega),zb b 11 (by omega),zb b 12 (by omega),zb b 13 (by omega),zb b 14 (by omega),zb b 15 (by omega),zb b 16 (by omega),zb b 17 (by omega),zb b 18 (by omega),zb b 19 (by omega),zb b 20 (by omega),zb b 21 (by omega),zb b 22 (by omega),zb b 23 (by omega),zb b 24 (by omega),zb b 25 (by omega),zb b 26 (by omega),zb b 27 (by omega),zb b 28 (by omega),zb b 29 (by omega),zb b 30 (by omega),zb b 31 (by omega)]
 have g1:∀ k:List (List V)→Option β,cL 5 b.v 32 k=k (yF b.H):=znC b.g32
 have g2:∀ k:List (List V)→Option β,cL 5 b.v 33 k=k (yF b.T):=znC b.g33
 rw [g1,g2,b.mk_v,b.v_mk]
theorem zKm(e:Plc)(v:Int):xd e.v 0 [V.sc (.int .i64 v)]=(⟨v,e.a,e.s⟩:Plc).v:=rfl
theorem zJ9(b:Bk)(e:Plc):xd e.v 0 [V.sc (.int .i64 (tbk b.salt e.a))]=(zeG b e).v:=by
 unfold zeG
 exact zKm e _
theorem z3(a:Adr):xd [(Qc (0:Int)),(Qb (0:Int)),(Qc (0:Int))] 0 a.v=a.v:=znH rfl
theorem z5(p:Plc):xd [(Qe (0:Int)),(Qc (0:Int)),(Qb (0:Int)),(Qc (0:Int)),(Qc (0:Int))] 0 p.v=p.v:=znH rfl
theorem at0(j:Nat):0+XJ (j:Int)*5=j*5:=by rw [XT]; omega
theorem p13(p:Plc):XK 3 (XL 1 p.v)=p.a.v:=rfl
theorem cB0(p:Plc)(k:Int→Option β):cI .i64 p.v 0 k=k p.b:=xF rfl k
theorem zFo(L:Nat)(hL:200000<L)(b:Bk)(hS:SndB b)(a:Adr)(j:Nat)(hj:j<b.H.length)(hf:zbw (fun x=>xz x.a a) b.H 0=(j:Int))(k:List V→Int→Option β):xf β (L+100) b.v a.v k=k (zqw b j b.H[j]).v 0:=by
 have hH:=hS.lenH
 have hT:=hS.lenT
 have hrl:(yQ b.H j).length≤b.H.length:=(zcX _ _).length_le
 have hne:b.H.isEmpty=false:=by
  cases he:b.H with
  | nil=>rw [he] at hj; simp at hj
  | cons x l=>rfl
 unfold xf zoY
 rw [xa (by rw [b.len]; omega),b.take,b.dem,zuZ _ b (by omega) (by omega) (by omega),(ze7 b).2 hS,Xg,zaU,yY b.g32,xa (by show 0+3≤3; omega),zbi,zrX _ b.H (by omega) (by omega),hf,yM,if_neg (by omega),xa (by rw [b.len]; omega),zge _ b (by omega) (by omega),xa (by omega),at0,xa (by rw [zak]; omega),zvy hj,xa ⟨rfl,by omega⟩,z5,yi,ztw _ b.H (by omega) j hj,xa rfl,xa (by rw [b.len]; omega),xa (by show 1+3≤5; omega),b.t32,p13,zGd L b.salt b.hs,xa (by show 1=1∧0+1≤5; omega),yi,zJ9,cB0,zsB]
 unfold zqw
 have hb:(zeG b b.H[j]).b=tbk b.salt b.H[j].a:=zsB _ _
 generalize zeG b b.H[j]=p at hb ⊢
 generalize tbk b.salt b.H[j].a=v at hb ⊢
 have hr:=zkp b.T v
 rw [zCA _ b.T (by omega) (by omega),xa rfl,yi,zX (by omega) (by omega),yM]
 by_cases h8:toN b.T v-xv b.T v≥8
 ·have hl:xv b.T v<b.T.length:=by omega
  have hrt:(yQ b.T (xv b.T v)).length≤b.T.length:=(zcX _ _).length_le
  have hil:(zgx (yQ b.T (xv b.T v)) p).length≤b.T.length+1:=by
   unfold zgx
   simp only [Wm,Ww,List.length_drop,List.length_singleton]
   omega
  rw [if_pos (by omega),if_pos h8,xa (by omega),at0,xa (by rw [zak]; omega),zzD hl,xa ⟨rfl,by omega⟩,z3,yi,ztw _ b.T (by omega) _ hl,xa rfl,xa (by show 0+5≤5; omega),zmO,ztp _ (yQ b.T (xv b.T v)) (by omega) (by omega),yM,if_pos (by omega),xa (by show 0+3≤3; omega),xa (by show 0+3≤3; omega),zbi,zzO,b.mk_v,b.v_mk,zFq L hL _ (by show (yQ b.H j).length≤100000; omega) (by show (zgx (yQ b.T (xv b.T v)) p).length≤100000; omega)]
  rw [Wb hl]
  exact zG9 _ k
 ·rw [if_neg (by omega),if_neg h8,xa (by show 0+5≤5; omega),zmO,zEa,za5,ztp _ b.T (by omega) (by omega),yM,if_neg (by omega),b.mk_v,b.v_mk]
theorem z34(z:List V)(hz:z.length=34)(b:Bk):xd z 0 b.v=b.v:=znH (by rw [b.len,hz])
theorem zId(L:Nat)(hL:200000<L)(b:Bk)(hS:SndB b)(a:Adr)(src:Int)(k:List V→Bool→Int→Option β):yv β (L+100) b.v a.v src k=k (zeu b a src).1.v (zeu b a src).2 0:=by
 have hH:=hS.lenH
 have hT:=hS.lenT
 unfold yv zrg
 rw [xa (by rw [b.len]; omega),b.take,b.dem,zuZ _ b (by omega) (by omega) (by omega),(ze7 b).2 hS,Xg,zaU,xa (by rw [b.len]; omega),xa (by show 0+3≤3; omega),zbi,zFq L hL b (by omega) (by omega)]
 generalize (zeu b a src).1=b'
 generalize (zeu b a src).2=r
 rw [xa ⟨b'.len,by omega⟩,z34 _ (by simp),yi,xa (by rw [b'.len]; omega),b'.take,xa ⟨b'.len,by omega⟩,z34 _ (by simp),yi,xa ⟨rfl,b'.len,by omega⟩]
end
section
set_option maxRecDepth 100000
theorem zz6(L:Nat)(v n:Int)(hn:1≤n)(hn2:n≤1000000000000):∃ r,0≤r∧r<n∧∀ (β:Type) (k:Int→Option β),xS β L v n k=k r:=by
 by_cases h:XP v n<0
 ·have h1:=Int.lt_tmod_of_pos v (show 0<n by omega)
  refine ⟨XP v n+n,by omega,by omega,fun β k=>?_⟩
  simp only [xS,zrE,yi]
  rw [xa (by omega),zaE h,zX (by omega) (by omega)]
 ·have h1:=Int.tmod_lt_of_pos v (show 0<n by omega)
  refine ⟨XP v n,by omega,h1,fun β k=>?_⟩
  simp only [xS,zrE,yi]
  rw [xa (by omega),zaO h]
structure Dk where
 l:List Int
 a:Int
 h0:0≤a
 h1:a≤l.length
 hl:l.length≤9223372036854775807
def Dk.es(d:Dk):List (List V):=za6 .i64 d.l
theorem zfh(L:Nat)(d:Dk)(n:Int)(hn:1≤n)(hn2:n≤1000000000000):∃ (r:Int) (d':Dk),d'.l=d.l∧0≤r∧r<n∧∀ (β:Type) (k:Int→List (List V)→Int→Option β),yd β L n d.es d.a k=k r d'.es d'.a:=by
 obtain ⟨l,a,h0,h1,hl⟩:=d
 simp only [Dk.es]
 by_cases h:a<l.length
 ·obtain ⟨i,rfl⟩:∃ i:Nat,a=i:=⟨a.toNat,by omega⟩
  have hi:i<l.length:=by omega
  obtain ⟨r,q1,q2,q3⟩:=zz6 L l[i] n hn hn2
  refine ⟨r,⟨l,i+1,by omega,by omega,hl⟩,rfl,q1,q2,fun β k=>?_⟩
  simp only [yd,zjD,xY,zi7,yi,zfy]
  have w1:QF .i64 ((i:Int)+1)=(i:Int)+1:=zX (by omega) (by omega)
  have w2:QF .i64 ((i:Int)+1-1)=(i:Int):=by rw [zX (by omega) (by omega)]; omega
  rw [zDU,if_pos (by omega),w1,w2,za4 (zzJ _ hi),xF (by rfl),q3]
 ·refine ⟨0,⟨l,a,h0,h1,hl⟩,rfl,by omega,by omega,fun β k=>?_⟩
  simp only [yd,zjD,xY,zi7,yi,zfy]
  rw [zDU,if_neg (by omega)]
theorem zJf(L:Nat)(d:Dk):∃ (id:List Int) (d':Dk),d'.l=d.l∧id.length=32∧∀ (β:Type) (k:List V→List (List V)→Int→Option β),zB β L d.es d.a k=k (row .u8 id) d'.es d'.a:=by
 obtain ⟨r,d1,e1,_,_,q1⟩:=zfh L d 5 (by omega) (by omega)
 obtain ⟨s,d2,e2,_,_,q2⟩:=zfh L d1 7 (by omega) (by omega)
 refine ⟨QF .u8 r::(We 30 0++[QF .u8 s]),d2,by rw [e2,e1],by simp,fun β k=>?_⟩
 simp only [zB,ztX,q1,q2,yi]
 rw [xa (by simp)]
 rfl
theorem zJg(n:Int):0≤QF .u32 n:=by
 unfold QF
 simp only [IntKind.signed,Xo,WO,if_false,IntKind.bits]
 exact Int.emod_nonneg n (by decide)
theorem zBE(L:Nat)(d:Dk):∃ (a:Adr) (d':Dk),d'.l=d.l∧0≤a.h∧∀ (β:Type) (k:List V→List (List V)→Int→Option β),xo β L d.es d.a k=k a.v d'.es d'.a:=by
 obtain ⟨r1,d1,e1,_,_,q1⟩:=zfh L d 6 (by omega) (by omega)
 obtain ⟨r2,d2,e2,_,_,q2⟩:=zfh L d1 5 (by omega) (by omega)
 obtain ⟨r3,d3,e3,_,_,q3⟩:=zfh L d2 2 (by omega) (by omega)
 obtain ⟨r4,d4,e4,_,_,q4⟩:=zfh L d3 50 (by omega) (by omega)
 refine ⟨⟨QF .u32 (zuk .u32 (QF .u32 r1) 16+QF .u32 r2),QF .u16 r3,QF .u32 r4⟩,d4,by rw [e4,e3,e2,e1],zJg _,fun β k=>?_⟩
 simp only [xo,zue,q1,q2,q3,q4,yi]
 rw [xa (by simp)]
 rfl
theorem zCw(A B r:List V)(h:A.length=r.length):xd (A++B) 0 r=r++B:=by
 unfold xd
 rw [Yn,WB,Yi h,XD]
def Bk.new(s:List Int)(h:s.length=32):Bk:=⟨s,[],[],h⟩
theorem zFg(s:List Int)(h:s.length=32):SndB (Bk.new s h):=⟨TOk.nil _ _,TOk.nil _ _,fun x hx=>by cases hx⟩
def z34g:List V:=We 32 (Qa (0:Int))++[(V.gs 5 ([]:List (List V))),(V.gs 5 ([]:List (List V)))]
theorem zER:z34g.length=34:=by simp [z34g]
theorem zHn{b:Bk}{i:Nat}(hi:i<b.H.length):∃ j:Nat,j<b.H.length∧zbw (fun x=>xz x.a b.H[i].a) b.H 0=(j:Int):=by
 refine zpS ?_
 have:=zFt (fun x:Plc=>xz x.a b.H[i].a) b.H 0
 have h2:b.H.any (fun x=>xz x.a b.H[i].a)=true:=List.any_eq_true.2 ⟨b.H[i],W1 hi,zvf _⟩
 rw [h2] at this
 exact of_decide_eq_true this
theorem zGP(L:Nat)(hL:200000<L):∀ (c m:Nat) (b:Bk) (d:Dk),c<m→c≤1000→SndB b→NnB b→∃ (b':Bk) (d':Dk),d'.l=d.l∧SndB b'∧NnB b'∧∀ (β:Type) (kx:List (List V)→Int→List V→List V→Option β),zcZ zB yd xf xo yv (L+100) kx m (c:Int) d.es d.a z34g b.v=kx d'.es d'.a z34g b'.v:=by
 intro c
 induction c with
 | zero=>
  intro m b d hm hc hS hN
  refine ⟨b,d,rfl,hS,hN,fun β kx=>?_⟩
  obtain ⟨m,rfl⟩:∃ q,m=q+1:=⟨m-1,by omega⟩
  simp only [zcZ,zeV]
  rw [zaO (by omega)]
 | succ c IH=>
  intro m b d hm hc hS hN
  obtain ⟨m,rfl⟩:∃ q,m=q+1:=⟨m-1,by omega⟩
  have hH:=hS.lenH
  have w:QF .i64 (((c+1:Nat):Int)-1)=(c:Int):=by rw [zX (by omega) (by omega)]; omega
  obtain ⟨r0,d0,e0,g1,g2,q0⟩:=zfh (L+100) d 4 (by omega) (by omega)
  by_cases h0:r0=0
  ·by_cases hp:0<b.H.length
   ·obtain ⟨r1,d1,e1,g3,g4,q1⟩:=zfh (L+100) d0 (b.H.length:Int) (by omega) (by omega)
    obtain ⟨i,rfl⟩:∃ i:Nat,r1=i:=⟨r1.toNat,by omega⟩
    have hi:i<b.H.length:=by omega
    obtain ⟨j,hj,hf⟩:=zHn hi
    obtain ⟨b',d',e',hS',hN',q'⟩:=IH m (zqw b j b.H[j]) d1 (by omega) (by omega) (zwX hS hj) (zIh hN hj)
    refine ⟨b',d',by rw [e',e1,e0],hS',hN',fun β kx=>?_⟩
    simp only [zcZ,zeV,q0]
    rw [zaE (by omega),yX,if_pos h0,yY b.g32,zK,zaE (by omega),xa (by rw [b.len]; omega),yY b.g32,yY b.g32,zK,q1,za4 (za1 hi),b.take,b.dem,p13,zFo L hL b hS _ j hj hf,xa ⟨Bk.len _,by rw [b.len]; omega⟩,z34 _ b.len,yi,yi,w]
    exact q' β kx
   ·obtain ⟨b',d',e',hS',hN',q'⟩:=IH m b d0 (by omega) (by omega) hS hN
    refine ⟨b',d',by rw [e',e0],hS',hN',fun β kx=>?_⟩
    simp only [zcZ,zeV,q0]
    rw [zaE (by omega),yX,if_pos h0,yY b.g32,zK,zaO (by omega),yi,w]
    exact q' β kx
  ·obtain ⟨a,d1,e1,ha,q1⟩:=zBE (L+100) d0
   obtain ⟨r2,d2,e2,_,_,q2⟩:=zfh (L+100) d1 4 (by omega) (by omega)
   obtain ⟨b',d',e',hS',hN',q'⟩:=IH m (zeu b a (QF .u32 r2)).1 d2 (by omega) (by omega) (zxk hS _ _) (zEz hN ha _)
   refine ⟨b',d',by rw [e',e2,e1,e0],hS',hN',fun β kx=>?_⟩
   simp only [zcZ,zeV,q0,q1,q2]
   rw [zaE (by omega),yX,if_neg h0,xa (by rw [b.len]; omega),yi,b.take,b.dem,zId L hL b hS,xa ⟨Bk.len _,by rw [b.len]; omega⟩,z34 _ b.len,yi,yi,w]
   exact q' β kx
theorem zJV(L:Nat)(hL:200000<L)(d:Dk):∃ (b:Bk) (d':Dk),d'.l=d.l∧SndB b∧NnB b∧∀ (β:Type) (k:List V→List (List V)→Int→Option β),zy β (L+100) d.es d.a k=k b.v d'.es d'.a:=by
 obtain ⟨s,d1,e1,hs,q1⟩:=zJf (L+100) d
 obtain ⟨r,d2,e2,g1,g2,q2⟩:=zfh (L+100) d1 40 (by omega) (by omega)
 obtain ⟨c,rfl⟩:∃ c:Nat,r=c:=⟨r.toNat,by omega⟩
 obtain ⟨b',d',e',hS',hN',q'⟩:=zGP L hL c (L+100) (Bk.new s hs) d2 (by omega) (by omega) (zFg s hs) ⟨fun e he=>(by cases he),fun e he=>(by cases he)⟩
 refine ⟨b',d',by rw [e',e2,e1],hS',hN',fun β k=>?_⟩
 simp only [zy,zqp,zt5,q1,q2]
 have es:xd (We 32 (Qa (0:Int))++[(V.sl 5 ([]:List (List V))),(V.sl 5 ([]:List (List V)))]) 0 (row .u8 s)=(Bk.new s hs).v:=by
  rw [zCw _ _ _ (by simp [zbo,hs])]; rfl
 rw [xa (by rw [zbo,hs]; omega),es,xa ⟨Bk.len _,by omega⟩,z34 _ (by simp),yi]
 refine (q' β _).trans ?_
 unfold zlv
 rw [xa (by rw [b'.len]; omega),b'.take,xa ⟨b'.len,by rw [zER]; omega⟩,z34 _ zER,yi,xa ⟨rfl,b'.len,by omega⟩]
end
end Go.Proofs.Ytbimgceighecgaa
