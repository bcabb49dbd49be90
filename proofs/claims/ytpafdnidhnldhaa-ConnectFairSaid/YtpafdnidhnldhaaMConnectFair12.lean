/- Part 12 of the proof of ConnectFair: an abstract machine over plain values, its soundness, and the functions of the program on plain values. -/
import Derived.Test.YtpafdnidhnldhaaMConnectFair11
namespace Go.Proofs.Ytpafdnidhnldhaa
section
set_option linter.unusedVariables false
set_option linter.unusedSimpArgs false
set_option maxRecDepth 100000
variable {β:Type}
theorem zpB {inst:Decidable ((4:Nat)≠0)} (k:Option β):@chk β ((4:Nat)≠0) inst k=k:=if_pos (by omega)
structure S4 where
 a:Int
 b:Int
 c:Int
 d:Int
def S4.row (s:S4):List V:=[.sc (.int .u64 s.a),.sc (.int .u64 s.b),.sc (.int .u64 s.c),.sc (.int .u64 s.d)]
def zry (x n:Int):Int:=ior .u64 (zrq .u64 x (zHK .u64 (IntKind.wrap .u64 n) 63)) (zoj .u64 x (IntKind.wrap .u64 (64 - zHK .u64 (IntKind.wrap .u64 n) 63)))
theorem zIv (L:Nat) (x:Int) (k:Int→Option β):zc β L x 13 k=k (zry x 13):=by kernel_rfl
theorem zID (L:Nat) (x:Int) (k:Int→Option β):zc β L x 32 k=k (zry x 32):=by kernel_rfl
theorem zIu (L:Nat) (x:Int) (k:Int→Option β):zc β L x 16 k=k (zry x 16):=by kernel_rfl
theorem zIw (L:Nat) (x:Int) (k:Int→Option β):zc β L x 21 k=k (zry x 21):=by kernel_rfl
theorem zIA (L:Nat) (x:Int) (k:Int→Option β):zc β L x 17 k=k (zry x 17):=by kernel_rfl
def r1 (s:S4):S4:=⟨IntKind.wrap .u64 (s.a+s.b),s.b,s.c,s.d⟩
def r2 (s:S4):S4:=⟨s.a,za0 .u64 (zry s.b 13) s.a,s.c,s.d⟩
def r3 (s:S4):S4:=⟨zry s.a 32,s.b,s.c,s.d⟩
def r4 (s:S4):S4:=⟨s.a,s.b,IntKind.wrap .u64 (s.c+s.d),s.d⟩
def r5 (s:S4):S4:=⟨s.a,s.b,s.c,za0 .u64 (zry s.d 16) s.c⟩
def r6 (s:S4):S4:=⟨IntKind.wrap .u64 (s.a+s.d),s.b,s.c,s.d⟩
def r7 (s:S4):S4:=⟨s.a,s.b,s.c,za0 .u64 (zry s.d 21) s.a⟩
def r8 (s:S4):S4:=⟨s.a,s.b,IntKind.wrap .u64 (s.c+s.b),s.d⟩
def r9 (s:S4):S4:=⟨s.a,za0 .u64 (zry s.b 17) s.c,s.c,s.d⟩
def r10 (s:S4):S4:=⟨s.a,s.b,zry s.c 32,s.d⟩
def rnd (s:S4):S4:=r10 (r9 (r8 (r7 (r6 (r5 (r4 (r3 (r2 (r1 s)))))))))
theorem c0 (s:S4) (k:Int→Option β):cI .u64 s.row 0 k=k s.a:=by cases s; rfl
theorem c1 (s:S4) (k:Int→Option β):cI .u64 s.row 1 k=k s.b:=by cases s; rfl
theorem c2 (s:S4) (k:Int→Option β):cI .u64 s.row 2 k=k s.c:=by cases s; rfl
theorem c3 (s:S4) (k:Int→Option β):cI .u64 s.row 3 k=k s.d:=by cases s; rfl
theorem zF9 (s:S4) (x:Int):xg s.row 0 [.sc (.int .u64 x)]=S4.row ⟨x,s.b,s.c,s.d⟩:=by cases s; rfl
theorem zJW (s:S4) (x:Int):xg s.row 1 [.sc (.int .u64 x)]=S4.row ⟨s.a,x,s.c,s.d⟩:=by cases s; rfl
theorem zFP (s:S4) (x:Int):xg s.row 2 [.sc (.int .u64 x)]=S4.row ⟨s.a,s.b,x,s.d⟩:=by cases s; rfl
theorem zFv (s:S4) (x:Int):xg s.row 3 [.sc (.int .u64 x)]=S4.row ⟨s.a,s.b,s.c,x⟩:=by cases s; rfl
theorem zrz (s t:S4):xg s.row 0 t.row=t.row:=by cases s; cases t; rfl
theorem zFN (z0 z1 z2 z3:Int) (t:S4):xg [V.sc (.int .u64 z0),V.sc (.int .u64 z1),V.sc (.int .u64 z2),V.sc (.int .u64 z3)] 0 t.row=t.row:=by cases t; rfl
theorem zlS (s:S4):s.row.length=4:=by cases s; rfl
theorem znD (s:S4):s.row.take 4=s.row:=by cases s; rfl
theorem zCl (L:Nat) (s:S4) (k:List V→Option β):yl β L s.row k=k (rnd s).row:=by
 simp only [yl,zpC,yx,c0,c1,c2,c3,zF9,zJW,zFP,zFv,zIv,zID,zIu,zIw,zIA,zlS,znD,zFN]
 repeat rw [xc (by decide)]
 rfl
theorem zGQ (L:Nat) (p5 p6:Int) (s:S4) (z0 z1 z2 z3:Int) (kh:Int→Int→List V→Int→Int→Int→Int→Option β) (kx:List V→Int→Int→Int→Int→Option β) (h:p6 < p5):zfk zc L p5 p6 s.row z0 z1 z2 z3 kh kx=kh p5 (IntKind.wrap .i64 (p6+1)) (rnd s).row z0 z1 z2 z3:=by
 simp only [zfk,yx,c0,c1,c2,c3,zF9,zJW,zFP,zFv,zIv,zID,zIu,zIw,zIA,zlS,zpB,zlM,true_and,and_true,and_self,Nat.reduceAdd,Nat.reduceMul,Nat.reduceLeDiff,Nat.le_refl,Nat.zero_add]
 rw [zaQ h]
 simp only [rnd,r1,r2,r3,r4,r5,r6,r7,r8,r9,r10]
def zBr:Nat→S4→S4
 | 0,s=>s
 | n+1,s=>zBr n (rnd s)
theorem zsm (L:Nat) (kx:List V→Int→Int→Int→Int→Option β) (z0 z1 z2 z3:Int) (m:Nat) (hm:m≤1000):∀ (n i:Nat) (s:S4),i≤m→m - i < n→zfu zc L kx n (m:Int) (i:Int) s.row z0 z1 z2 z3=kx (zBr (m - i) s).row z0 z1 z2 z3
 | 0,i,s,hi,hn=>by omega
 | n+1,i,s,hi,hn=>by
  simp only [zfu]
  by_cases h:i < m
  ·rw [zGQ _ _ _ _ _ _ _ _ _ _ (by omega)]
   rw [show IntKind.wrap .i64 ((i:Int)+1)=((i+1:Nat):Int) by rw [y7 (by omega) (by omega)]; omega]
   rw [zsm L kx z0 z1 z2 z3 m hm n (i+1) _ (by omega) (by omega),show m - i=(m - (i+1))+1 by omega]
   rfl
  ·simp only [zfk]
   rw [za6 (by omega),show m - i=0 by omega]
   rfl
theorem zzD (L:Nat) (s:S4) (m:Nat) (hm:m≤1000) (hL:m < L) (k:List V→Option β):zp β L s.row (m:Int) k=k (zBr m s).row:=by
 simp only [zp,znM,zqW]
 rw [show (0:Int)=((0:Nat):Int) from rfl,zsm L _ _ _ _ _ m hm L 0 s (by omega) (by omega)]
 simp only [zka,yx,zlS,znD,Nat.sub_zero,zFN,zpB,zlM,true_and,and_true,and_self,Nat.reduceAdd,Nat.reduceMul,Nat.reduceLeDiff,Nat.le_refl,Nat.zero_add]
def zq5 (s:S4) (m:Int):S4:=⟨za0 .u64 (rnd (rnd ⟨s.a,s.b,s.c,za0 .u64 s.d m⟩)).a m,(rnd (rnd ⟨s.a,s.b,s.c,za0 .u64 s.d m⟩)).b,(rnd (rnd ⟨s.a,s.b,s.c,za0 .u64 s.d m⟩)).c,(rnd (rnd ⟨s.a,s.b,s.c,za0 .u64 s.d m⟩)).d⟩
theorem zAz (L:Nat) (hL:2 < L) (s:S4) (m:Int) (k:List V→Option β):zw β L s.row m k=k (zq5 s m).row:=by
 simp only [zw,zrI,yx,c3,zFv,zlS,znD,zpB,zlM,true_and,and_true,and_self,Nat.reduceAdd,Nat.reduceMul,Nat.reduceLeDiff,Nat.le_refl,Nat.zero_add]
 rw [show (2:Int)=((2:Nat):Int) from rfl,zzD L _ 2 (by omega) hL]
 simp only [zlS,zrz,c0,zF9,znD,zFN,zBr,zq5,zpB,zlM,true_and,and_true,and_self,Nat.reduceAdd,Nat.reduceMul,Nat.reduceLeDiff,Nat.le_refl,Nat.zero_add]
theorem zAt (L:Nat) (s:S4) (m:Int) (k:List V→Option β):xq β L s.row m k=k (zq5 s m).row:=by
 simp only [xq,zou,yx,c3,zFv,zlS,znD,zCl,zrz,c0,zF9,zFN,zq5,zpB,zlM,true_and,and_true,and_self,Nat.reduceAdd,Nat.reduceMul,Nat.reduceLeDiff,Nat.le_refl,Nat.zero_add]
def zrg:Nat→S4→List Int→S4
 | 0,s,_=>s
 | n+1,s,l=>zrg n (zq5 s (ziQ 0 0 (l.take 8))) (l.drop 8)
def zFt (s:S4) (n:Int) (l:List Int):S4:=zq5 s (ior .u64 (ziQ 0 0 l) (zrq .u64 (IntKind.wrap .u64 (Int.tmod n 256)) 56))
def zFx (s:S4):S4:=zBr 4 ⟨s.a,s.b,za0 .u64 s.c 255,s.d⟩
def zDb (s:S4):Int:=za0 .u64 (za0 .u64 (za0 .u64 s.a s.b) s.c) s.d
def zFQ (s:S4) (n:Int) (l:List Int):Int:=zDb (zFx (zFt s n l))
def zF4 (x y:Int):S4:=⟨za0 .u64 x 8317987319222330741,za0 .u64 y 7237128888997146477,za0 .u64 x 7816392313619706465,za0 .u64 y 8387220255154660723⟩
def zqE (x y:Int) (l:List Int):Int:=zFQ (zrg (l.length / 8) (zF4 x y) l) l.length (l.drop (l.length / 8 * 8))
theorem zwy (L:Nat) (hL:10 < L) (l:List Int) (hl:l.length≤1000000) (kx:List (List V)→Int→List V→Option β) (p6:Int):∀ (n i:Nat) (s:S4),i≤l.length / 8→l.length / 8 - i < n→zf4 yt zw zp L kx n (zaO .u8 l) p6 ((l.length / 8:Nat):Int) (i:Int) s.row=kx (zaO .u8 l) p6 (zrg (l.length / 8 - i) s (l.drop (8 * i))).row
 | 0,i,s,hi,hn=>by omega
 | n+1,i,s,hi,hn=>by
  simp only [zf4,znq,yx,zlS,znD,zew]
  by_cases h:i < l.length / 8
  ·have e1:IntKind.wrap .i64 (8 * (i:Int))=((8 * i:Nat):Int):=by rw [y7 (by omega) (by omega)]; omega
   have e2:IntKind.wrap .i64 (((8 * i:Nat):Int)+8)=((8 * i+8:Nat):Int):=by rw [y7 (by omega) (by omega)]; omega
   have e3:IntKind.wrap .i64 ((i:Int)+1)=((i+1:Nat):Int):=by rw [y7 (by omega) (by omega)]; omega
   rw [zaQ (by omega),e1,e2,e3,xc (by decide),xc (by omega),xc (by simp; omega)]
   simp only [Int.toNat_natCast,zwb,zw3]
   rw [zuJ _ _ (by simp; omega) (by simp; omega),zAz _ (by omega)]
   simp only [zlS,zrz]
   rw [xc (by decide),zwy L hL l hl kx p6 n (i+1) _ (by omega) (by omega),show l.length / 8 - i=(l.length / 8 - (i+1))+1 by omega,zrg,List.drop_drop]
   rw [show 8 * i+8 - 8 * i=8 by omega,show 8 * (i+1)=8 * i+8 by omega]
  ·rw [za6 (by omega),show l.length / 8 - i=0 by omega]
   rfl
theorem zxr (L:Nat) (x y:Int) (l:List Int) (hl:l.length≤1000000) (hL:l.length+10 < L) (k:Int→Option β):xT β L (row .u64 [x,y]) (zaO .u8 l) k=k (zqE x y l):=by
 simp only [xT,zsi,zxj,yx,zew]
 rw [xI (n:=x) (by rfl),xI (n:=y) (by rfl),xI (n:=x) (by rfl),xI (n:=y) (by rfl)]
 have e1:IntKind.wrap .i64 (Int.tdiv (l.length:Int) 8)=((l.length / 8:Nat):Int):=by
  rw [Int.tdiv_eq_ediv_of_nonneg (by omega),y7 (by omega) (by omega)]; omega
 rw [e1,show (0:Int)=((0:Nat):Int) from rfl]
 have:=zwy (β:=β) L (by omega) l hl (fun p1 p6 b5=>zgT yt zw zp L p1 p6 b5 k) ((l.length / 8:Nat):Int) L 0 (zF4 x y) (by omega) (by omega)
 refine (show _=_ from this).trans ?_
 have e2:IntKind.wrap .i64 (8 * ((l.length / 8:Nat):Int))=((l.length / 8 * 8:Nat):Int):=by rw [y7 (by omega) (by omega)]; omega
 simp only [zgT,yx,zlS,znD,zew,Nat.sub_zero,Nat.mul_zero,List.drop_zero]
 rw [xc (by decide),e2,xc (by omega)]
 simp only [Int.toNat_natCast,zwb,zw3]
 rw [List.take_of_length_le (by simp),zuJ _ _ (by simp; omega) (by simp; omega),zAz _ (by omega)]
 simp only [zlS,zrz,c2,zFP,znD,zpB,zlM,true_and,and_true,and_self,Nat.reduceAdd,Nat.reduceMul,Nat.reduceLeDiff,Nat.le_refl,Nat.zero_add]
 rw [show (4:Int)=((4:Nat):Int) from rfl,zzD _ _ 4 (by omega) (by omega)]
 simp only [zlS,zrz,c0,c1,c2,c3,zqE,zFQ,zFt,zFx,zDb,zpB,zlM,true_and,and_true,and_self,Nat.reduceAdd,Nat.reduceMul,Nat.reduceLeDiff,Nat.le_refl,Nat.zero_add]
theorem zFJ (n:Nat):∀ (s:S4) (l:List Int),zrg (n+1) s l=zrg n (zq5 s (ziQ 0 0 (l.take 8))) (l.drop 8):=fun _ _=>rfl
theorem zwQ (L:Nat) (hL:10 < L) (kx:List (List V)→Int→List V→Option β) (p6:Int):∀ (n:Nat) (l:List Int) (s:S4),l.length≤1000000→l.length / 8 < n→zfl xn xq yl L kx n (zaO .u8 l) p6 s.row=kx (zaO .u8 (l.drop (l.length / 8 * 8))) p6 (zrg (l.length / 8) s l).row
 | 0,l,s,hl,hn=>by omega
 | n+1,l,s,hl,hn=>by
  simp only [zfl,zl0,yx,zlS,znD,zew]
  by_cases h:8≤l.length
  ·rw [zaQ (by omega),xc (by decide),xc (by omega)]
   simp only [zwb,zw3,List.drop_zero]
   rw [zuY _ _ (by simp; omega) (by simp; omega),zAt,xc (by omega)]
   simp only [zlS,zrz]
   rw [xc (by decide),List.take_of_length_le (by simp),zwQ L hL kx p6 n _ _ (by simp; omega) (by simp; omega)]
   have e:(l.drop 8).length / 8=l.length / 8 - 1:=by simp; omega
   rw [e,List.drop_drop,show 8+(l.length / 8 - 1) * 8=l.length / 8 * 8 by omega]
   obtain ⟨q,hq⟩:∃ q,l.length / 8=q+1:=⟨l.length / 8 - 1,by omega⟩
   rw [hq,zFJ]
   rfl
  ·have e:l.length / 8=0:=by omega
   rw [za6 (by omega),e]
   rfl
theorem zxw (L:Nat) (x y:Int) (l:List Int) (hl:l.length≤1000000) (hL:l.length+10 < L) (k:Int→Option β):yL β L (row .u64 [x,y]) (zaO .u8 l) k=k (zqE x y l):=by
 simp only [yL,zoL,zs2,yx,zew]
 rw [xI (n:=x) (by rfl),xI (n:=y) (by rfl),xI (n:=x) (by rfl),xI (n:=y) (by rfl)]
 have:=zwQ (β:=β) L (by omega) (fun p1 p6 b5=>zf3 xn xq yl L p1 p6 b5 k) (l.length:Int) L l (zF4 x y) hl (by omega)
 refine (show _=_ from this).trans ?_
 simp only [zf3,yx,zlS,znD]
 rw [xc (by decide),zuY _ _ (by simp; omega) (by simp; omega)]
 simp only [zAt,zlS,zrz,c2,zFP,znD,zCl,c0,c1,c3,zqE,zFQ,zFt,zFx,zDb,zBr,zpB,zlM,true_and,and_true,and_self,Nat.reduceAdd,Nat.reduceMul,Nat.reduceLeDiff,Nat.le_refl,Nat.zero_add]
end
section
set_option linter.unusedVariables false
set_option linter.unusedSimpArgs false
variable {β:Type}
structure Adr where
 h:Int
 p:Int
 t:Int
def Adr.v (a:Adr):List V:=[.sc (.int .u32 a.h),.sc (.int .u16 a.p),.sc (.int .u32 a.t)]
structure Lnk where
 k:Int
 a:Adr
def Lnk.v (l:Lnk):List V:=[.sc (.int .i64 l.k),.sc (.int .u32 l.a.h),.sc (.int .u16 l.a.p),.sc (.int .u32 l.a.t)]
def grp (a:Adr):Int:=zoj .u32 a.h 16
def zdS (l:List Lnk):List (List V):=l.map Lnk.v
theorem zjk (l:List Lnk):(zdS l).length=l.length:=by simp [zdS]
theorem zuu {l:List Lnk} {i:Nat} (h:i < l.length):(zdS l)[i]?=some l[i].v:=by simp [zdS,h]
theorem zGm (l:List Lnk) (i:Nat):(zdS l).take i=zdS (l.take i):=by simp [zdS,List.map_take]
theorem zlT (L:Nat) (a:Adr) (k:Int→Option β):yb β L a.v k=k (grp a):=by
 simp only [yb,zmb,Adr.v,yx]
 rw [xI (by rfl)]; rfl
theorem zyZ (L:Nat) (a:Adr) (k:Int→Option β):zj β L a.v k=k (grp a):=by
 simp only [zj,zpS,Adr.v,yx]
 rw [xI (by rfl)]; rfl
def tkn (l:List Lnk) (a:Adr):Bool:=l.any (fun e=>grp e.a == grp a)
theorem zIk (L:Nat) (l:Lnk) (a:Adr) (k:Bool→List V→Option β):xi β L l.v a.v k=k (grp l.a == grp a) a.v:=by
 simp only [xi,zjT]
 have e1:List.take 3 (List.drop 1 l.v)=l.a.v:=rfl
 have e2:List.take 3 a.v=a.v:=rfl
 rw [xc (by show 1+3≤4; omega),e1,zlT,xc (by show 0+3≤3; omega),e2,zlT]
theorem zyJ (L:Nat) (ls:List Lnk) (hl:ls.length≤1000000) (a:Adr) (kr:Int→List V→Option β) (kx:List V→Option β) (k:Bool→Option β) (hr:∀ j:Nat,kr (j:Int) a.v=k true) (hx:kx a.v=k false) :
  ∀ (m i:Nat),i≤ls.length→ls.length - i < m→y8 xi L kr kx m (zdS ls) ((ls.length:Nat):Int) (i:Int) a.v=k (tkn (ls.drop i) a)
 | 0,i,h1,h2=>by omega
 | m+1,i,h1,h2=>by
  simp only [y8,zbJ,yx]
  by_cases h:i < ls.length
  ·have e1:List.take 4 ls[i].v=ls[i].v:=rfl
   rw [zaQ (by omega),zaZ (zuu h),e1,zIk,xc rfl,zag (by omega),zyJ L ls hl a kr kx k hr hx m (i+1) (by omega) (by omega),List.drop_eq_getElem_cons h,hr]
   have e:tkn (ls[i]::ls.drop (i+1)) a=(grp ls[i].a == grp a || tkn (ls.drop (i+1)) a):=rfl
   rw [e]
   cases (grp ls[i].a == grp a) <;> rfl
  ·rw [za6 (by omega),hx,List.drop_of_length_le (by omega)]; rfl
theorem zxf (L:Nat) (ls:List Lnk) (hl:ls.length≤1000000) (hL:ls.length < L) (a:Adr) (k:Bool→Option β):xa β L (zdS ls) a.v k=k (tkn ls a):=by
 simp only [xa,zma,yp,zbS,zs,za4,zb7,zjk]
 rw [show ((0:Int))=((0:Nat):Int) from rfl,zyJ L ls hl a _ _ k (fun j=>?_) ?_ L 0 (by omega) (by omega),List.drop_zero]
 ·simp only [zbk]
  rw [zlM,zlM]
  rfl
 ·simp only [zbf]
  rw [zlM,zlM,decide_eq_true (by omega)]
theorem zH2 (L:Nat) (n:Int) (k:Bool→Option β):yi β L n k=k (decide (1≤n∧n≤3)):=by
 simp only [yi,znt,zdT]
 by_cases h1:n=1
 ·subst h1; rfl
 ·rw [if_neg h1]
  by_cases h2:n=2
  ·subst h2; rfl
  ·rw [if_neg h2]
   congr 1
   rw [Bool.eq_iff_iff]
   simp
   omega
def snd (l:List Lnk) (i:Nat):Bool:=match l[i]? with
 | some e=>decide (1≤e.k∧e.k≤3) && !(tkn (l.take i) e.a)
 | none=>true
def zA4 (l:List Lnk) (i:Nat):Nat→Bool
 | 0=>true
 | n+1=>snd l i && zA4 l (i+1) n
def znF (l:List Lnk):Bool:=decide (l.length≤8) && zA4 l 0 l.length
theorem zyG (L:Nat) (ls:List Lnk) (hl:ls.length≤8) (hL:100≤L) (kr:Bool→Option β) (kx:Option β) (k:Bool→Option β) (hr:kr false=k false) (hx:kx=k true) :
  ∀ (m i:Nat),i≤ls.length→ls.length - i < m→zdj yi xa L kr kx m (zdS ls) (zdS ls) ((ls.length:Nat):Int) (i:Int)=k (zA4 ls i (ls.length - i))
 | 0,i,h1,h2=>by omega
 | m+1,i,h1,h2=>by
  simp only [zdj,zhC,yx]
  by_cases h:i < ls.length
  ·have e1:List.take 4 ls[i].v=ls[i].v:=rfl
   have e2:xg [(V.sc (.int .i64 (0:Int))),(V.sc (.int .u32 (0:Int))),(V.sc (.int .u16 (0:Int))),(V.sc (.int .u32 (0:Int)))] 0 ls[i].v=ls[i].v:=zc3 rfl
   have e3:List.take 3 (List.drop 1 ls[i].v)=ls[i].a.v:=rfl
   have e4:ls.length - i=(ls.length - (i+1))+1:=by omega
   rw [zaQ (by omega),zaZ (zuu h),e1,xc ⟨rfl,by omega⟩,e2,xI (n:=ls[i].k) rfl,zH2,zzh,e4,zA4,snd,List.getElem?_eq_getElem h]
   simp only
   by_cases hk:1≤ls[i].k∧ls[i].k≤3
   ·rw [if_pos hk,zjk,xc ⟨by omega,by omega⟩,xc (by show 1+3≤4; omega),e3,Nat.sub_zero,Int.toNat_natCast,List.drop_zero,zGm,zxf L (ls.take i) (by simp; omega) (by simp; omega),decide_eq_true hk]
    cases hb:tkn (ls.take i) ls[i].a with
    | true=>exact hr
    | false =>
     rw [zb1,zag (by omega),zyG L ls hl hL kr kx k hr hx m (i+1) (by omega) (by omega)]
     rfl
   ·rw [if_neg hk,hr,decide_eq_false hk]; rfl
  ·rw [za6 (by omega),hx,show ls.length - i=0 by omega]; rfl
theorem zGz (L:Nat) (ls:List Lnk) (hL:100≤L) (k:Bool→Option β):ye β L (zdS ls) k=k (znF ls):=by
 simp only [ye,zji,zmH,zjk,zar]
 by_cases h:ls.length≤8
 ·rw [if_neg (by omega),show ((0:Int))=((0:Nat):Int) from rfl]
  refine (zyG L ls h hL _ _ k ?_ ?_ L 0 (by omega) (by omega)).trans ?_
  ·rfl
  ·rfl
  ·rw [znF,decide_eq_true h]; rfl
 ·rw [if_pos (by omega),znF,decide_eq_false h]
  rfl
end
section
set_option linter.unusedVariables false
set_option linter.unusedSimpArgs false
variable {β:Type}
def cnt (kd:Int):List Lnk→Nat
 | []=>0
 | l::ls=>(if l.k=kd then 1 else 0)+cnt kd ls
theorem zGA (kd:Int):∀ ls:List Lnk,cnt kd ls≤ls.length
 | []=>Nat.le_refl _
 | l::ls=>by have:=zGA kd ls; simp only [cnt,List.length_cons]; split <;> omega
theorem zuF (L:Nat) (ls:List Lnk) (hl:ls.length≤1000000) (kx:Int→Option β):∀ (m i c:Nat),c≤i→i≤ls.length→ls.length - i < m→zds zm L kx m (c:Int) (zdS ls) ((ls.length:Nat):Int) (i:Int)=kx ((c+cnt 1 (ls.drop i):Nat):Int)
 | 0,i,c,h0,h1,h2=>by omega
 | m+1,i,c,h0,h1,h2=>by
  simp only [zds,zh0,yx]
  by_cases h:i < ls.length
  ·have e1:List.take 4 ls[i].v=ls[i].v:=rfl
   have e2:xg [(V.sc (.int .i64 (0:Int))),(V.sc (.int .u32 (0:Int))),(V.sc (.int .u16 (0:Int))),(V.sc (.int .u32 (0:Int)))] 0 ls[i].v=ls[i].v:=zc3 rfl
   have e:cnt 1 (ls[i]::ls.drop (i+1))=(if ls[i].k=1 then 1 else 0)+cnt 1 (ls.drop (i+1)):=rfl
   rw [zaQ (by omega),zaZ (zuu h),e1,xc ⟨rfl,by omega⟩,e2,xc (by show 0+4≤4; omega),e1,zm,zj6,xI (n:=ls[i].k) rfl,zdT,List.drop_eq_getElem_cons h,e]
   by_cases hk:ls[i].k=1
   ·rw [if_pos hk,if_pos hk,zag (by omega),zag (by omega),zuF L ls hl kx m (i+1) (c+1) (by omega) (by omega) (by omega),Nat.add_assoc]
   ·rw [if_neg hk,if_neg hk,zag (by omega),zuF L ls hl kx m (i+1) c (by omega) (by omega) (by omega),Nat.zero_add]
  ·rw [za6 (by omega),List.drop_of_length_le (by omega)]; rfl
theorem zH0 (L:Nat) (ls:List Lnk) (hl:ls.length≤1000000) (hL:ls.length < L) (k:Int→Option β):ym β L (zdS ls) k=k ((cnt 1 ls:Nat):Int):=by
 simp only [ym,ziR,zny,zjk]
 rw [show ((0:Int))=((0:Nat):Int) from rfl,zuF L ls hl _ L 0 0 (by omega) (by omega) (by omega),List.drop_zero,Nat.zero_add]
 rfl
theorem zrn (L:Nat) (ls:List Lnk) (hl:ls.length≤1000000) (kx:Int→Option β):∀ (m i c:Nat),c≤i→i≤ls.length→ls.length - i < m→zcR xl L kx m (c:Int) (zdS ls) ((ls.length:Nat):Int) (i:Int)=kx ((c+cnt 3 (ls.drop i):Nat):Int)
 | 0,i,c,h0,h1,h2=>by omega
 | m+1,i,c,h0,h1,h2=>by
  simp only [zcR,zgy,yx]
  by_cases h:i < ls.length
  ·have e1:List.take 4 ls[i].v=ls[i].v:=rfl
   have e2:xg [(V.sc (.int .i64 (0:Int))),(V.sc (.int .u32 (0:Int))),(V.sc (.int .u16 (0:Int))),(V.sc (.int .u32 (0:Int)))] 0 ls[i].v=ls[i].v:=zc3 rfl
   have e:cnt 3 (ls[i]::ls.drop (i+1))=(if ls[i].k=3 then 1 else 0)+cnt 3 (ls.drop (i+1)):=rfl
   rw [zaQ (by omega),zaZ (zuu h),e1,xc ⟨rfl,by omega⟩,e2,xc (by show 0+4≤4; omega),e1,xl,zke,xI (n:=ls[i].k) rfl,zdT,List.drop_eq_getElem_cons h,e]
   by_cases hk:ls[i].k=3
   ·rw [if_pos hk,if_pos hk,zag (by omega),zag (by omega),zrn L ls hl kx m (i+1) (c+1) (by omega) (by omega) (by omega),Nat.add_assoc]
   ·rw [if_neg hk,if_neg hk,zag (by omega),zrn L ls hl kx m (i+1) c (by omega) (by omega) (by omega),Nat.zero_add]
  ·rw [za6 (by omega),List.drop_of_length_le (by omega)]; rfl
theorem zGd (L:Nat) (ls:List Lnk) (hl:ls.length≤1000000) (hL:ls.length < L) (k:Int→Option β):yj β L (zdS ls) k=k ((cnt 3 ls:Nat):Int):=by
 simp only [yj,zg1,zk0,zjk]
 rw [show ((0:Int))=((0:Nat):Int) from rfl,zrn L ls hl _ L 0 0 (by omega) (by omega) (by omega),List.drop_zero,Nat.zero_add]
 rfl
end
section
set_option linter.unusedVariables false
set_option linter.unusedSimpArgs false
variable {β:Type}
structure Plc where
 b:Int
 a:Adr
 s:Int
def Plc.v (e:Plc):List V:=[.sc (.int .i64 e.b),.sc (.int .u32 e.a.h),.sc (.int .u16 e.a.p),.sc (.int .u32 e.a.t),.sc (.int .u32 e.s)]
def xR (l:List Plc):List (List V):=l.map Plc.v
theorem xZ (l:List Plc):(xR l).length=l.length:=by simp [xR]
theorem zct {l:List Plc} {i:Nat} (h:i < l.length):(xR l)[i]?=some l[i].v:=by simp [xR,h]
theorem zzd (l m:List Plc):xR l++xR m=xR (l++m):=by simp [xR]
def zfo (l:List Adr):List (List V):=l.map Adr.v
theorem zrM (l:List Adr):(zfo l).length=l.length:=by simp [zfo]
theorem zy4 {l:List Adr} {i:Nat} (h:i < l.length):(zfo l)[i]?=some l[i].v:=by simp [zfo,h]
def ziz (ls:List Lnk) (ps:List Plc):List Adr:=(ps.filter (fun e=>!tkn ls e.a)).map Plc.a
theorem zze (ls:List Lnk) (ps:List Plc):(ziz ls ps).length≤ps.length:=by
 rw [ziz,List.length_map]; exact List.length_filter_le _ _
theorem zIb (ls:List Lnk) (ps qs:List Plc):ziz ls (ps++qs)=ziz ls ps++ziz ls qs:=by simp [ziz]
theorem zHR {ls:List Lnk} {e:Plc} (ps:List Plc) (h:tkn ls e.a=false):ziz ls (e::ps)=e.a::ziz ls ps:=by simp [ziz,h]
theorem zI9 {ls:List Lnk} {e:Plc} (ps:List Plc) (h:tkn ls e.a=true):ziz ls (e::ps)=ziz ls ps:=by simp [ziz,h]
theorem zIU (a:Adr):yk 3 1 (xg [(V.sc (.int .u32 (0:Int))),(V.sc (.int .u16 (0:Int))),(V.sc (.int .u32 (0:Int)))] 0 a.v)=[a.v]:=by
 rw [zc3 (by rfl)]; rfl
theorem zG7 (l:List Adr) (a:Adr):zfo l++[a.v]=zfo (l++[a]):=by simp [zfo]
theorem zur (L:Nat) (ls:List Lnk) (hl:ls.length≤1000000) (hL:ls.length < L) (ps:List Plc) (hp:ps.length≤1000000) (kx:List (List V)→List (List V)→Option β) :
  ∀ (m i:Nat) (out:List Adr),out.length≤1000000+i→i≤ps.length→ps.length - i < m→zce xa L kx m (xR ps) ((ps.length:Nat):Int) (i:Int) (zdS ls) (zfo out)=kx (zdS ls) (zfo (out++ziz ls (ps.drop i)))
 | 0,i,out,h0,h1,h2=>by omega
 | m+1,i,out,h0,h1,h2=>by
  simp only [zce,ze7,yx]
  by_cases h:i < ps.length
  ·have e1:List.take 5 ps[i].v=ps[i].v:=rfl
   have e2:xg [(V.sc (.int .i64 (0:Int))),(V.sc (.int .u32 (0:Int))),(V.sc (.int .u16 (0:Int))),(V.sc (.int .u32 (0:Int))),(V.sc (.int .u32 (0:Int)))] 0 ps[i].v=ps[i].v:=zc3 rfl
   have e3:List.take 3 (List.drop 1 ps[i].v)=ps[i].a.v:=rfl
   rw [zaQ (by omega),zaZ (zct h),e1,xc ⟨rfl,by omega⟩,e2,xc (by show 1+3≤5; omega),e3,zxf L ls hl hL,List.drop_eq_getElem_cons h]
   cases hb:tkn ls ps[i].a with
   | true=>rw [Bool.not_true,zb1,zag (by omega),zur L ls hl hL ps hp kx m (i+1) out (by omega) (by omega) (by omega),zI9 _ hb]
   | false =>
    rw [Bool.not_false,zfs,xc (by show 1+3≤5; omega),xc ⟨rfl,by omega⟩,zIU,zrM,List.length_singleton,xc ⟨by simp only [yr]; omega,by simp only [yr]; omega⟩,zG7,zag (by omega),zur L ls hl hL ps hp kx m (i+1) _ (by simp; omega) (by omega) (by omega),zHR _ hb,List.append_assoc]
    rfl
  ·rw [za6 (by omega),List.drop_of_length_le (by omega)]
   show _=kx (zdS ls) (zfo (out++[]))
   rw [List.append_nil]
theorem zBg (L:Nat) (ls:List Lnk) (hl:ls.length≤1000000) (hL:ls.length < L) (ps:List Plc) (hp:ps.length≤1000000) (hpL:ps.length < L) (out:List Adr) (ho:out.length≤1000000) (k:List (List V)→List (List V)→Option β) :
  xD β L (xR ps) (zdS ls) (zfo out) k=k (zdS ls) (zfo (out++ziz ls ps)):=by
 simp only [xD,zd3,zgz,xZ]
 rw [show ((0:Int))=((0:Nat):Int) from rfl,zur L ls hl hL ps hp _ L 0 out (by omega) (by omega) (by omega),List.drop_zero]
 rfl
def zlH (H T:List Plc) (ls:List Lnk) (kd:Int):List Adr:=if kd=2 then ziz ls (T++H) else if kd=3 then ziz ls H else []
theorem zDV (L:Nat) (ls:List Lnk) (hl:ls.length≤1000000) (hL:ls.length < L) (p0:List V) (H T:List Plc) (hH:H.length≤1000000) (hT:T.length≤1000000) (hHL:H.length < L) (hTL:T.length < L) (g1:p0[32]?=some (.sl 5 (xR H))) (g2:p0[33]?=some (.sl 5 (xR T))) (kd:Int) (k:List (List V)→Option β) :
  za β L p0 (zdS ls) kd k=k (zfo (zlH H T ls kd)):=by
 simp only [za,zhY,zdT]
 have e0:([]:List (List V))=zfo []:=rfl
 rw [e0,zlH]
 by_cases h2:kd=2
 ·rw [if_pos h2,if_pos h2,zb9 g2,zBg L ls hl hL T hT hTL [] (by simp),zb9 g1,zBg L ls hl hL H hH hHL _ (by have:=zze ls T; simp; omega),zIb,List.nil_append]
 ·rw [if_neg h2,if_neg h2]
  by_cases h3:kd=3
  ·rw [if_pos h3,if_pos h3,zb9 g1,zBg L ls hl hL H hH hHL [] (by simp),List.nil_append]
  ·rw [if_neg h3,if_neg h3]
end
section
set_option linter.unusedVariables false
set_option linter.unusedSimpArgs false
variable {β:Type}
structure Bk where
 salt:List Int
 H:List Plc
 T:List Plc
 hs:salt.length=32
def Bk.v (b:Bk):List V:=row .u8 b.salt++[.sl 5 (xR b.H),.sl 5 (xR b.T)]
theorem Bk.len (b:Bk):b.v.length=34:=by simp [Bk.v,zcl,b.hs]
theorem Bk.take (b:Bk):List.take 34 b.v=b.v:=List.take_of_length_le (by rw [b.len]; exact Nat.le_refl _)
theorem zJc (k:IntKind) (l:List Int):(row k l).map V.dem=row k l:=by simp [row,V.dem]
theorem Bk.dem (b:Bk):List.map V.dem b.v=b.v:=by
 rw [Bk.v,List.map_append,zJc]; rfl
theorem Bk.g32 (b:Bk):b.v[32]?=some (.sl 5 (xR b.H)):=by
 rw [Bk.v,List.getElem?_append_right (by rw [zcl,b.hs]; omega),zcl,b.hs]; rfl
theorem Bk.g33 (b:Bk):b.v[33]?=some (.sl 5 (xR b.T)):=by
 rw [Bk.v,List.getElem?_append_right (by rw [zcl,b.hs]; omega),zcl,b.hs]; rfl
def Lnk0:Lnk:=⟨0,⟨0,0,0⟩⟩
def zxx (c:List Adr) (draw:Int):Adr:=c.getD (Int.tmod draw (c.length:Int)).toNat ⟨0,0,0⟩
def zxl (b:Bk) (ls:List Lnk) (kd draw:Int):Lnk × Int :=
 if zlH b.H b.T ls kd=[] then (Lnk0,390) else (⟨kd,zxx (zlH b.H b.T ls kd) draw⟩,0)
theorem zDw (c:List Adr) (hc:c.length≤4000000) (draw:Int) (hd:0≤draw) (A:Option β) (G:List V→Option β) :
  ifb ((((zfo c).length:Nat):Int) == 0) A (lt (IntKind.wrap .u64 (((zfo c).length:Nat):Int)) fun x=>chk (x≠0) (lt (Int.tmod draw x) fun y=>idx (zfo c) y fun e=>G e))=if c=[] then A else G (zxx c draw).v:=by
 rw [zdT,zrM]
 by_cases h:c=[]
 ·subst h; rfl
 ·have hpos:0 < c.length:=List.length_pos_iff.2 h
  rw [if_neg (by omega),if_neg h]
  simp only [yx]
  rw [zzc (by omega) (by omega),xc (by omega)]
  have e:Int.tmod draw (c.length:Int)=((Int.tmod draw (c.length:Int)).toNat:Int):=by
   rw [Int.toNat_of_nonneg (Int.tmod_nonneg _ hd)]
  have hlt:(Int.tmod draw (c.length:Int)).toNat < c.length:=by
   have:=Int.tmod_lt_of_pos draw (b:=(c.length:Int)) (by omega)
   have:=Int.tmod_nonneg (c.length:Int) hd
   omega
  rw [e,zaZ (zy4 hlt),zxx,List.getD_eq_getElem?_getD,List.getElem?_eq_getElem hlt]
  rfl
def zpl (ls:List Lnk):List Adr→Option Adr
 | []=>none
 | a::l=>if tkn ls a then zpl ls l else some a
def ztq (b:Bk) (ls:List Lnk) (draw:Int):Lnk × Int :=
 if (ls.length:Int) - (cnt 3 ls:Int) ≥ 7 then (if (cnt 3 ls:Int) > 0 then (Lnk0,380) else zxl b ls 3 draw) else zxl b ls 2 draw
def zxt (bs:Bool) (b:Bk) (an:List Adr) (ls:List Lnk) (draw:Int):Lnk × Int :=
 if znF ls=false then (Lnk0,6) else if bs=false then (Lnk0,6) else if 8≤ls.length then (Lnk0,380) else
 if cnt 1 ls < 2 then (match zpl ls an with | some a=>(⟨1,a⟩,0) | none=>ztq b ls draw) else ztq b ls draw
def zFp (k:List V→Int→Option β) (r:Lnk × Int):Option β:=k r.1.v r.2
theorem zCo (b:Bk) (ls:List Lnk) (kd:Int) (hH:b.H.length≤1000000) (hT:b.T.length≤1000000):(zlH b.H b.T ls kd).length≤4000000:=by
 unfold zlH
 split
 ·have:=zze ls (b.T++b.H); rw [List.length_append] at this; omega
 ·split
  ·have:=zze ls b.H; omega
  ·simp
theorem zJM (kd:Int) (a:Adr) (k:List V→Int→Option β):(chk ((List.length (List.take 3 a.v))=3∧1+3≤4) (
 chk ((List.length (xg [(V.sc (.int .i64 kd)),(V.sc (.int .u32 (0:Int))),(V.sc (.int .u16 (0:Int))),(V.sc (.int .u32 (0:Int)))] 1 (List.take 3 a.v)))=4∧0+4≤4) (
 lt (xg [(V.sc (.int .i64 (0:Int))),(V.sc (.int .u32 (0:Int))),(V.sc (.int .u16 (0:Int))),(V.sc (.int .u32 (0:Int)))] 0 (xg [(V.sc (.int .i64 kd)),(V.sc (.int .u32 (0:Int))),(V.sc (.int .u16 (0:Int))),(V.sc (.int .u32 (0:Int)))] 1 (List.take 3 a.v))) fun r14 =>
 chk (0=0∧(List.length r14)=4∧4≠0) (
 k r14 (0:Int)))))=k (⟨kd,a⟩:Lnk).v 0:=by
 rw [xc ⟨rfl,by omega⟩,xc ⟨rfl,by omega⟩,yx,xc ⟨rfl,rfl,by omega⟩]
 rfl
theorem zBD (e:Int) (k:List V→Int→Option β):(lt [(V.sc (.int .i64 (0:Int))),(V.sc (.int .u32 (0:Int))),(V.sc (.int .u16 (0:Int))),(V.sc (.int .u32 (0:Int)))] fun r1 =>
 chk (0=0∧(List.length r1)=4∧4≠0) (k r1 e))=k Lnk0.v e:=by
 rw [yx,xc ⟨rfl,rfl,by omega⟩]; rfl
theorem zIq (L:Nat) (b:Bk) (hH:b.H.length≤1000000) (hT:b.T.length≤1000000) (hL:2000000 < L) (ls:List Lnk) (hl:ls.length≤1000000) (draw:Int) (hd:0≤draw) (k:List V→Int→Option β) :
  zbV ye xk ym yj za xa L (zdS ls) draw b.v 0 0 0 0 k=zFp k (ztq b ls draw):=by
 have hc:=zGA 3 ls
 unfold zbV
 rw [zGd L ls hl (by omega),yx,zjk,y7 (by omega) (by omega),zar,ztq]
 by_cases h7:(ls.length:Int) - (cnt 3 ls:Int) ≥ 7
 ·rw [if_pos h7,if_pos h7,zar]
  by_cases hf:(cnt 3 ls:Int) > 0
  ·rw [if_pos hf,if_pos hf,zBD]; rfl
  ·rw [if_neg hf,if_neg hf,xc (by rw [b.len]; omega),b.take,b.dem,zDV L ls hl (by omega) b.v b.H b.T hH hT (by omega) (by omega) b.g32 b.g33]
   refine (zDw _ (zCo b ls 3 hH hT) draw hd _ _).trans ?_
   rw [zxl]
   by_cases h:zlH b.H b.T ls 3=[]
   ·rw [if_pos h,if_pos h,zBD]; rfl
   ·rw [if_neg h,if_neg h,zJM]; rfl
 ·rw [if_neg h7,if_neg h7,xc (by rw [b.len]; omega),b.take,b.dem,zDV L ls hl (by omega) b.v b.H b.T hH hT (by omega) (by omega) b.g32 b.g33]
  refine (zDw _ (zCo b ls 2 hH hT) draw hd _ _).trans ?_
  rw [zxl]
  by_cases h:zlH b.H b.T ls 2=[]
  ·rw [if_pos h,if_pos h,zBD]; rfl
  ·rw [if_neg h,if_neg h,zJM]; rfl
theorem zDL (L:Nat) (b:Bk) (ls:List Lnk) (hl:ls.length≤1000000) (hL:ls.length < L) (an:List Adr) (ha:an.length≤1000000) (draw:Int) (kr:Int→List V→Option β) (kx:zj2 β) :
  ∀ (m i:Nat),i≤an.length→an.length - i < m→zcc ye xk ym yj za xa L kr kx m (zdS ls) draw (zfo an) ((an.length:Nat):Int) (i:Int) b.v 0 0 0 0 =
   match zpl ls (an.drop i) with | some a=>kr 0 (⟨1,a⟩:Lnk).v | none=>kx (zdS ls) draw b.v 0 0 0 0
 | 0,i,h1,h2=>by omega
 | m+1,i,h1,h2=>by
  simp only [zcc,zfa,yx]
  by_cases h:i < an.length
  ·have e1:List.take 3 an[i].v=an[i].v:=rfl
   have e2:xg [(V.sc (.int .u32 (0:Int))),(V.sc (.int .u16 (0:Int))),(V.sc (.int .u32 (0:Int)))] 0 an[i].v=an[i].v:=zc3 rfl
   rw [zaQ (by omega),zaZ (zy4 h),e1,xc ⟨rfl,by omega⟩,e2,xc (by show 0+3≤3; omega),e1,zxf L ls hl hL,List.drop_eq_getElem_cons h,zpl]
   cases hb:tkn ls an[i] with
   | true=>rw [Bool.not_true,zb1,zag (by omega),zDL L b ls hl hL an ha draw kr kx m (i+1) (by omega) (by omega),if_pos rfl]
   | false =>
    rw [Bool.not_false,zfs,xc (by show 0+3≤3; omega),xc ⟨rfl,by omega⟩,xc ⟨rfl,by omega⟩,if_neg (by simp)]
    rfl
  ·rw [za6 (by omega),List.drop_of_length_le (by omega)]
   rfl
theorem zJd (L:Nat) (b:Bk) (hH:b.H.length≤1000000) (hT:b.T.length≤1000000) (hL:2000000 < L) (bs:Bool) (hB:∀ k:Bool→Option β,xk β L b.v k=k bs) (an:List Adr) (ha:an.length≤1000000) (ls:List Lnk) (hl:ls.length≤1000000) (draw:Int) (hd:0≤draw) (k:List V→Int→Option β) :
  xb β L b.v (zfo an) (zdS ls) draw k=zFp k (zxt bs b an ls draw):=by
 unfold xb zid zlY
 rw [zGz L ls (by omega),zxt]
 cases hs:znF ls with
 | false=>rw [Bool.not_false,zfs,zBD,if_pos rfl]; rfl
 | true =>
  rw [Bool.not_true,zb1,xc (by rw [b.len]; omega),b.take,b.dem,hB,if_neg (show ¬ ((true:Bool)=false) by simp)]
  cases bs with
  | false=>rw [Bool.not_false,zfs,zBD,if_pos rfl]; rfl
  | true =>
   rw [Bool.not_true,zb1,zar,if_neg (show ¬ ((true:Bool)=false) by simp),zjk]
   by_cases h8:8≤ls.length
   ·rw [if_pos (by omega),if_pos h8,zBD]; rfl
   ·rw [if_neg (by omega),if_neg h8,zH0 L ls hl (by omega),zar]
    by_cases h2:cnt 1 ls < 2
    ·rw [if_pos (by omega),if_pos h2,zrM,show ((0:Int))=((0:Nat):Int) from rfl]
     refine (zDL L b ls hl (by omega) an ha draw _ _ L 0 (by omega) (by omega)).trans ?_
     rw [List.drop_zero]
     cases zpl ls an with
     | some a=>unfold zea; exact xc ⟨rfl,rfl,by omega⟩ _
     | none=>exact zIq L b hH hT hL ls hl draw hd k
    ·rw [if_neg (by omega),if_neg h2]
     have:=zIq (β:=β) L b hH hT hL ls hl draw hd k
     unfold zbV at this
     rw [zjk,b.take,b.dem] at this
     exact this
end
section
set_option linter.unusedVariables false
set_option linter.unusedSimpArgs false
set_option maxRecDepth 100000
variable {β:Type}
def le4 (x:Int):List Int:=[IntKind.wrap .u8 (zoj .u64 x 0),IntKind.wrap .u8 (zoj .u64 x 8),IntKind.wrap .u8 (zoj .u64 x 16),IntKind.wrap .u8 (zoj .u64 x 24)]
def le2 (x:Int):List Int:=[IntKind.wrap .u8 (zoj .u64 x 0),IntKind.wrap .u8 (zoj .u64 x 8)]
theorem zKp (L:Nat) (x:Int) (k:List (List V)→Option β):yF β (L+10) x 4 k=k (zaO .u8 (le4 x)):=by kernel_rfl
theorem zKu (L:Nat) (x:Int) (k:List (List V)→Option β):yF β (L+10) x 2 k=k (zaO .u8 (le2 x)):=by kernel_rfl
theorem zKm (L:Nat) (x:Int) (k:List (List V)→Option β):xE β (L+10) x 4 k=k (zaO .u8 (le4 x)):=by kernel_rfl
theorem zKo (L:Nat) (x:Int) (k:List (List V)→Option β):xE β (L+10) x 2 k=k (zaO .u8 (le2 x)):=by kernel_rfl
theorem zG3 (L:Nat) (l m:List Int) (hl:l.length≤1000) (hm:m.length≤1000) (k:List (List V)→Option β):yE β L (zaO .u8 l) (zaO .u8 m) k=k (zaO .u8 (l++m)):=by
 simp only [yE,zoJ,yx,zew,List.replicate_zero,List.length_nil,Nat.zero_add,List.nil_append]
 rw [y7 (by omega) (by omega),xc ⟨by omega,by omega,by simp only [yr]; omega,by simp only [yr]; omega⟩,xc ⟨by simp only [yr]; omega,by simp only [yr]; omega⟩,xc ⟨by simp only [yr]; omega,by simp only [yr]; omega⟩,zEl]
theorem zE9 (L:Nat) (l m:List Int) (hl:l.length≤1000) (hm:m.length≤1000) (k:List (List V)→Option β):zF β L (zaO .u8 l) (zaO .u8 m) k=k (zaO .u8 (l++m)):=by
 simp only [zF,zoh,yx,zew,List.replicate_zero,List.length_nil,Nat.zero_add,List.nil_append]
 rw [y7 (by omega) (by omega),xc ⟨by omega,by omega,by simp only [yr]; omega,by simp only [yr]; omega⟩,xc ⟨by simp only [yr]; omega,by simp only [yr]; omega⟩,xc ⟨by simp only [yr]; omega,by simp only [yr]; omega⟩,zEl]
def w64 (x:Int):Int:=IntKind.wrap .u64 x
theorem zyU (L:Nat) (l:List Int) (hl:l.length≤900) (x:Int) (k:List (List V)→Option β):xv β (L+10) (zaO .u8 l) x k=k (zaO .u8 (l++le4 (w64 x))):=by
 simp only [xv,zk3,yx]
 rw [zKp,zG3 _ _ _ (by omega) (by simp [le4])]; rfl
theorem zKv (L:Nat) (l:List Int) (hl:l.length≤900) (x:Int) (k:List (List V)→Option β):yR β (L+10) (zaO .u8 l) x k=k (zaO .u8 (l++le2 (w64 x))):=by
 simp only [yR,zk1,yx]
 rw [zKu,zG3 _ _ _ (by omega) (by simp [le2])]; rfl
theorem zuH (L:Nat) (l:List Int) (hl:l.length≤900) (x:Int) (k:List (List V)→Option β):yv β (L+10) (zaO .u8 l) x k=k (zaO .u8 (l++le4 (w64 x))):=by
 simp only [yv,zkL,yx]
 rw [zKm,zE9 _ _ _ (by omega) (by simp [le4])]; rfl
theorem zKk (L:Nat) (l:List Int) (hl:l.length≤900) (x:Int) (k:List (List V)→Option β):xQ β (L+10) (zaO .u8 l) x k=k (zaO .u8 (l++le2 (w64 x))):=by
 simp only [xQ,zk7,yx]
 rw [zKo,zE9 _ _ _ (by omega) (by simp [le2])]; rfl
end
section
set_option linter.unusedVariables false
set_option linter.unusedSimpArgs false
set_option maxRecDepth 100000
variable {β:Type}
def zFw (s:List Int):Int:=ziQ 0 0 (s.take 8)
def zFL (s:List Int):Int:=ziQ 0 0 ((s.drop 8).take 8)
def bkt (s:List Int) (m1:List Int) (m2:Int→List Int):Int :=
 IntKind.wrap .i64 (Int.tmod (zqE (zFw s) (zFL s) (m2 (IntKind.wrap .u32 (Int.tmod (zqE (zFw s) (zFL s) m1) 4)))) 64)
def hbk (s:List Int) (a:Adr) (src:Int):Int:=bkt s ([2]++le4 (w64 (grp a))++le4 (w64 src)) (fun x=>[1]++le4 (w64 src)++le4 (w64 x))
def tbk (s:List Int) (a:Adr):Int:=bkt s ([4]++le4 (w64 a.h)++le2 (w64 a.p)) (fun x=>[3]++le4 (w64 (grp a))++le4 (w64 x))
theorem zDd (n:Int):yk 1 1 [(V.sc (.int .u8 n))]=zaO .u8 [n]:=rfl
theorem zC8 (x y:Int):xg [(V.sc (.int .u64 (0:Int))),(V.sc (.int .u64 (0:Int)))] 0 (row .u64 [x,y])=row .u64 [x,y]:=rfl
theorem zzG (x y:Int):List.take 2 (row .u64 [x,y])=row .u64 [x,y]:=rfl
theorem zlt (a:Adr):List.take 3 a.v=a.v:=rfl
theorem zqR {s:List Int} (h:s.length=32):List.take 32 (row .u8 s)=row .u8 s:=List.take_of_length_le (by rw [zcl,h]; exact Nat.le_refl _)
theorem zJ7 (L:Nat) (s:List Int) (hs:s.length=32) (a:Adr) (src:Int) (k:Int→Option β):xG β (L+100) (row .u8 s) a.v src k=k (hbk s a src):=by
 simp only [xG,zgC,zqR hs,zlt,yx,zDd]
 rw [xc (by rw [zcl,hs]; omega),(zAI (β:=β) (L+100) (by omega) s hs _).1,xc ⟨rfl,by omega⟩,zC8,xc (by show 0+2≤2; omega),xc (by show 0+3≤3; omega),zlT,show L+100=(L+90)+10 from rfl,zyU _ _ (by simp),zyU _ _ (by simp [le4]),zzG,zxr _ _ _ _ (by simp [le4]) (by simp [le4]),zyU _ _ (by simp),zyU _ _ (by simp [le4]),xc (by show 0+2≤2; omega),zxr _ _ _ _ (by simp [le4]) (by simp [le4])]
 rfl
theorem zIs (L:Nat) (s:List Int) (hs:s.length=32) (a:Adr) (src:Int) (k:Int→Option β):zb β (L+100) (row .u8 s) a.v src k=k (hbk s a src):=by
 simp only [zb,zit,zqR hs,zlt,yx,zDd]
 rw [xc (by rw [zcl,hs]; omega),(zAI (β:=β) (L+100) (by omega) s hs _).2,xc ⟨rfl,by omega⟩,zC8,xc (by show 0+2≤2; omega),xc (by show 0+3≤3; omega),zyZ,show L+100=(L+90)+10 from rfl,zuH _ _ (by simp),zuH _ _ (by simp [le4]),zzG,zxw _ _ _ _ (by simp [le4]) (by simp [le4]),xc (by show 0+2≤2; omega),zuH _ _ (by simp),zuH _ _ (by simp [le4]),zxw _ _ _ _ (by simp [le4]) (by simp [le4])]
 rfl
theorem zKc (L:Nat) (s:List Int) (hs:s.length=32) (a:Adr) (k:Int→Option β):yG β (L+100) (row .u8 s) a.v k=k (tbk s a):=by
 simp only [yG,zgE,zqR hs,zlt,yx,zDd]
 rw [xc (by rw [zcl,hs]; omega),(zAI (β:=β) (L+100) (by omega) s hs _).1,xc ⟨rfl,by omega⟩,zC8,xc (by show 0+2≤2; omega),xI (n:=a.h) rfl,show L+100=(L+90)+10 from rfl,zyU _ _ (by simp),xI (n:=a.p) rfl,zKv _ _ (by simp [le4]),zzG,zxr _ _ _ _ (by simp [le4,le2]) (by simp [le4,le2]),xc (by show 0+3≤3; omega),zlT,zyU _ _ (by simp),zyU _ _ (by simp [le4]),xc (by show 0+2≤2; omega),zxr _ _ _ _ (by simp [le4]) (by simp [le4])]
 rfl
theorem zFC (L:Nat) (s:List Int) (hs:s.length=32) (a:Adr) (k:Int→Option β):yf β (L+100) (row .u8 s) a.v k=k (tbk s a):=by
 simp only [yf,ziC,zqR hs,zlt,yx,zDd]
 rw [xc (by rw [zcl,hs]; omega),(zAI (β:=β) (L+100) (by omega) s hs _).2,xc ⟨rfl,by omega⟩,zC8,xc (by show 0+2≤2; omega),xI (n:=a.h) rfl,show L+100=(L+90)+10 from rfl,zuH _ _ (by simp),xI (n:=a.p) rfl,zKk _ _ (by simp [le4]),zzG,zxw _ _ _ _ (by simp [le4,le2]) (by simp [le4,le2]),xc (by show 0+2≤2; omega),xc (by show 0+3≤3; omega),zyZ,zuH _ _ (by simp),zuH _ _ (by simp [le4]),zxw _ _ _ _ (by simp [le4]) (by simp [le4])]
 rfl
end
section
set_option linter.unusedVariables false
set_option linter.unusedSimpArgs false
variable {β:Type}
def yJ (a b:Adr):Bool:=a.h == b.h && a.p == b.p
theorem zER (L:Nat) (a b:Adr) (k:Bool→Option β):yg β L a.v b.v k=k (yJ a b):=by
 simp only [yg,zq0]
 rw [xI (n:=a.h) rfl,xI (n:=b.h) rfl,zdT]
 by_cases h:a.h=b.h
 ·rw [if_pos h,xI (n:=a.p) rfl,xI (n:=b.p) rfl,yJ,h]
  congr 1
  simp
 ·rw [if_neg h,yJ,beq_eq_false_iff_ne.2 h]; rfl
theorem zCg (L:Nat) (ps:List Plc) (hp:ps.length≤1000000) (a:Adr) (k:Int→Option β):∀ (m i:Nat),i≤ps.length→ps.length - i < m →
  ze8 yg L k (k (-1)) m (xR ps) (i:Int) a.v=k (zex (fun e=>yJ e.a a) (ps.drop i) i)
 | 0,i,h1,h2=>by omega
 | m+1,i,h1,h2=>by
  simp only [ze8,zl6,yx,xZ]
  by_cases h:i < ps.length
  ·have e1:List.take 3 (List.drop 1 ps[i].v)=ps[i].a.v:=rfl
   rw [zaQ (by omega),zaZ (zct h),xc (by show 0+3≤3; omega),e1,zlt,zER,zag (by omega),zCg L ps hp a k m (i+1) (by omega) (by omega),List.drop_eq_getElem_cons h,zex]
   cases yJ ps[i].a a <;> rfl
  ·rw [za6 (by omega),List.drop_of_length_le (by omega)]; rfl
theorem zBt (L:Nat) (ps:List Plc) (hp:ps.length≤1000000) (hL:ps.length < L) (a:Adr) (k:Int→Option β):zd β L (xR ps) a.v k=k (zex (fun e=>yJ e.a a) ps 0):=by
 simp only [zd,zni,zrs]
 rw [show ((0:Int))=((0:Nat):Int) from rfl]
 exact zCg L ps hp a k L 0 (by omega) (by omega)
end
section
set_option linter.unusedVariables false
set_option linter.unusedSimpArgs false
variable {β:Type}
def full (l:List Plc) (i:Nat) (v:Int):Bool:=match l[i - 8]? with
 | some e=>decide (8≤i) && e.b == v
 | none=>false
def zkN (l:List Plc) (i:Nat) (v:Int):Bool:=match l[i - 1]? with
 | some e=>decide (0 < i) && decide (e.b > v)
 | none=>false
def zoX (l:List Plc) (i:Nat):Bool:=match l[i]? with
 | some e=>zex (fun x=>yJ x.a e.a) l 0 == (i:Int)
 | none=>true
def zpf (bk:Plc→Int) (l:List Plc) (i:Nat):Bool:=match l[i]? with
 | some e=>e.b == bk e && !(zkN l i (bk e)) && !(full l i (bk e)) && zoX l i
 | none=>true
def zmz (p:Nat→Bool):Nat→Nat→Bool
 | _,0=>true
 | i,n+1=>p i && zmz p (i+1) n
def zeq (bk:Plc→Int) (l:List Plc):Bool:=decide (l.length≤512) && zmz (zpf bk l) 0 l.length
theorem zIT (L:Nat) (ps:List Plc) (hp:ps.length≤1000) (hL:ps.length < L) (i:Nat) (h:i < ps.length) (v:Int) (A:Option β) (K:Int→Option β) :
  (ifb (decide ((i:Int) ≥ (8:Int))) (
 lt (IntKind.wrap .i64 ((i:Int) - (8:Int))) fun x11 =>
 idx (xR ps) x11 fun c12 =>
 cI .i64 c12 0 fun v13 =>
 ifb ((v13:Int) == v) A (
 idx (xR ps) (i:Int) fun c14 =>
 zd β L (xR ps) (List.take 3 (List.drop 1 c14)) (fun v15 =>
 ifb ((v15:Int) != (i:Int)) A (
 lt (IntKind.wrap .i64 ((i:Int)+(1:Int))) fun x16 =>
 K x16)))) (
 idx (xR ps) (i:Int) fun c17 =>
 zd β L (xR ps) (List.take 3 (List.drop 1 c17)) (fun v18 =>
 ifb ((v18:Int) != (i:Int)) A (
 lt (IntKind.wrap .i64 ((i:Int)+(1:Int))) fun x19 =>
 K x19))))=ifb (!(full ps i v) && zoX ps i) (K ((i+1:Nat):Int)) A:=by
 have e1:List.take 3 (List.drop 1 ps[i].v)=ps[i].a.v:=rfl
 have key:(idx (xR ps) (i:Int) fun c17 =>
   zd β L (xR ps) (List.take 3 (List.drop 1 c17)) (fun v18 =>
   ifb ((v18:Int) != (i:Int)) A (
   lt (IntKind.wrap .i64 ((i:Int)+(1:Int))) fun x19=>K x19)))=ifb (zoX ps i) (K ((i+1:Nat):Int)) A:=by
  rw [zaZ (zct h),e1,zBt L ps (by omega) hL,yx,zag (by omega),zoX,List.getElem?_eq_getElem h]
  simp only
  rw [zmC,zdT]
 rw [key,zar]
 by_cases h8:8≤i
 ·have g:ps[i - 8]?=some (ps[i - 8]'(by omega)):=List.getElem?_eq_getElem (by omega)
  have e8:IntKind.wrap .i64 ((i:Int) - 8)=((i - 8:Nat):Int):=by rw [y7 (by omega) (by omega)]; omega
  rw [if_pos (by omega),yx,e8,zaZ (zct (by omega)),xI (n:=(ps[i - 8]'(by omega)).b) rfl,full,g]
  simp only
  rw [decide_eq_true h8,Bool.true_and]
  cases ((ps[i - 8]'(by omega)).b == v) <;> rfl
 ·have e:full ps i v=false:=by
   unfold full
   rw [decide_eq_false h8]
   split <;> rfl
  rw [if_neg (by omega),e]
  rfl
theorem zGJ (L:Nat) (ps:List Plc) (hp:ps.length≤1000) (hL:ps.length < L) (i:Nat) (h:i < ps.length) (v:Int) (A:Option β) (K:Int→Option β) :
  (idx (xR ps) (i:Int) fun c6 =>
 cI .i64 c6 0 fun v7 =>
 ifb ((v7:Int) != v) A (
 ifb (decide ((i:Int) > (0:Int))) (
 lt (IntKind.wrap .i64 ((i:Int) - (1:Int))) fun x8 =>
 idx (xR ps) x8 fun c9 =>
 cI .i64 c9 0 fun v10 =>
 ifb (decide (v10 > v)) A (
 ifb (decide ((i:Int) ≥ (8:Int))) (
 lt (IntKind.wrap .i64 ((i:Int) - (8:Int))) fun x11 =>
 idx (xR ps) x11 fun c12 =>
 cI .i64 c12 0 fun v13 =>
 ifb ((v13:Int) == v) A (
 idx (xR ps) (i:Int) fun c14 =>
 zd β L (xR ps) (List.take 3 (List.drop 1 c14)) (fun v15 =>
 ifb ((v15:Int) != (i:Int)) A (
 lt (IntKind.wrap .i64 ((i:Int)+(1:Int))) fun x16 =>
 K x16)))) (
 idx (xR ps) (i:Int) fun c17 =>
 zd β L (xR ps) (List.take 3 (List.drop 1 c17)) (fun v18 =>
 ifb ((v18:Int) != (i:Int)) A (
 lt (IntKind.wrap .i64 ((i:Int)+(1:Int))) fun x19 =>
 K x19))))) (
 ifb (decide ((i:Int) ≥ (8:Int))) (
 lt (IntKind.wrap .i64 ((i:Int) - (8:Int))) fun x11 =>
 idx (xR ps) x11 fun c12 =>
 cI .i64 c12 0 fun v13 =>
 ifb ((v13:Int) == v) A (
 idx (xR ps) (i:Int) fun c14 =>
 zd β L (xR ps) (List.take 3 (List.drop 1 c14)) (fun v15 =>
 ifb ((v15:Int) != (i:Int)) A (
 lt (IntKind.wrap .i64 ((i:Int)+(1:Int))) fun x16 =>
 K x16)))) (
 idx (xR ps) (i:Int) fun c17 =>
 zd β L (xR ps) (List.take 3 (List.drop 1 c17)) (fun v18 =>
 ifb ((v18:Int) != (i:Int)) A (
 lt (IntKind.wrap .i64 ((i:Int)+(1:Int))) fun x19 =>
 K x19))))))=ifb (ps[i].b == v && !(zkN ps i v) && !(full ps i v) && zoX ps i) (K ((i+1:Nat):Int)) A:=by
 rw [zIT L ps hp hL i h,zaZ (zct h),xI (n:=ps[i].b) rfl,zmC]
 by_cases hb:ps[i].b=v
 ·rw [if_pos hb,hb,beq_self_eq_true,Bool.true_and,zar]
  by_cases h0:0 < i
  ·have g:ps[i - 1]?=some (ps[i - 1]'(by omega)):=List.getElem?_eq_getElem (by omega)
   have e8:IntKind.wrap .i64 ((i:Int) - 1)=((i - 1:Nat):Int):=by rw [y7 (by omega) (by omega)]; omega
   rw [if_pos (by omega),yx,e8,zaZ (zct (by omega)),xI (n:=(ps[i - 1]'(by omega)).b) rfl,zkN,g]
   simp only
   rw [decide_eq_true h0,Bool.true_and]
   cases decide ((ps[i - 1]'(by omega)).b > v) <;> rfl
  ·have e:zkN ps i v=false:=by
    unfold zkN
    rw [decide_eq_false h0]
    split <;> rfl
   rw [if_neg (by omega),e]
   rfl
 ·rw [if_neg hb,beq_eq_false_iff_ne.2 hb]
  rfl
end
section
set_option linter.unusedVariables false
set_option linter.unusedSimpArgs false
def zaJ (v:Int) (l:List Plc):Nat:=(l.filter (fun x=>x.b == v)).length
def okS (bk:Plc→Int) (N:List Adr) (pre:List Plc) (e:Plc):Bool :=
 e.b == bk e && (pre.all (fun x=>decide (x.b≤e.b)) && (decide (zaJ e.b pre≤7) && (!(pre.any (fun x=>yJ x.a e.a)) && !(N.any (fun a=>yJ a e.a)))))
def okA (bk:Plc→Int) (N:List Adr):List Plc→List Plc→Bool
 | _,[]=>true
 | pre,e::l=>okS bk N pre e && okA bk N (pre++[e]) l
def Srt (l:List Plc):Prop:=l.Pairwise (fun x y=>x.b≤y.b)
theorem zG9 {bk:Plc→Int} {N:List Adr} {pre:List Plc} {e:Plc} (h:okS bk N pre e=true):∀ x ∈ pre,x.b≤e.b:=by
 simp only [okS,Bool.and_eq_true,List.all_eq_true,decide_eq_true_eq] at h
 exact h.2.1
theorem Srt.snoc {pre:List Plc} {e:Plc} (h:Srt pre) (he:∀ x ∈ pre,x.b≤e.b):Srt (pre++[e]):=by
 unfold Srt at *
 rw [List.pairwise_append]
 exact ⟨h,by simp,fun x hx y hy=>by simp at hy; subst hy; exact he x hx⟩
theorem Srt.split:∀ {l:List Plc} (v:Int),Srt l→(∀ x ∈ l,x.b≤v)→∃ A B:List Plc,l=A++B∧(∀ x ∈ A,x.b < v)∧(∀ x ∈ B,x.b=v)
 | [],v,_,_=>⟨[],[],rfl,by simp,by simp⟩
 | x::l,v,h,hv=>by
  have h':=List.pairwise_cons.1 h
  obtain ⟨A,B,rfl,hA,hB⟩:=Srt.split v h'.2 (fun y hy=>hv y (by simp [hy]))
  by_cases hx:x.b < v
  ·exact ⟨x::A,B,rfl,by simpa using ⟨hx,hA⟩,hB⟩
  ·have hxv:x.b=v:=by have:=hv x (by simp); omega
   have:A=[]:=by
    cases A with
    | nil=>rfl
    | cons a A =>
     have h1:=hA a (by simp)
     have h2:=h'.1 a (by simp)
     omega
   subst this
   exact ⟨[],x::B,rfl,by simp,by simpa using ⟨hxv,hB⟩⟩
theorem zFG {A B:List Plc} {v:Int} (hA:∀ x ∈ A,x.b < v) (hB:∀ x ∈ B,x.b=v):zaJ v (A++B)=B.length:=by
 unfold zaJ
 rw [List.filter_append,List.filter_eq_nil_iff.2 (fun x hx=>by have:=hA x hx; simp; omega),List.filter_eq_self.2 (fun x hx=>by simp [hB x hx])]
 rfl
theorem zEP {l:List Plc} (h:Srt l) (v:Int) (i:Nat) (hi:i < l.length):(l.take i).all (fun x=>decide (x.b≤v))=!(zkN l i v):=by
 unfold zkN
 cases i with
 | zero=>cases hl:l[0 - 1]? <;> simp
 | succ i =>
  rw [Nat.add_sub_cancel,List.getElem?_eq_getElem (by omega)]
  simp only
  rw [Bool.eq_iff_iff]
  simp only [List.all_eq_true,decide_eq_true_eq,Bool.not_eq_true',Bool.and_eq_false_imp,decide_eq_false_iff_not]
  constructor
  ·intro H _ hgt
   have:=H l[i] (List.mem_take_iff_getElem.2 ⟨i,by omega,rfl⟩)
   omega
  ·intro H x hx
   have H:=H (by omega)
   obtain ⟨j,hj,rfl⟩:=List.mem_take_iff_getElem.1 hx
   by_cases hji:j=i
   ·subst hji; omega
   ·have:=List.pairwise_iff_getElem.1 h j i (by omega) (by omega) (by omega)
    omega
theorem zIF {l:List Plc} {i:Nat} (hi:i < l.length) (v:Int) (h:Srt (l.take i)) (hv:∀ x ∈ l.take i,x.b≤v):full l i v=!(decide (zaJ v (l.take i)≤7)):=by
 obtain ⟨A,B,hAB,hA,hB⟩:=h.split v hv
 rw [hAB,zFG hA hB]
 have hlen:i=A.length+B.length:=by
  have:=congrArg List.length hAB
  rw [List.length_take,List.length_append,Nat.min_eq_left (by omega)] at this
  exact this
 unfold full
 rw [List.getElem?_eq_getElem (by omega)]
 simp only
 by_cases h8:8≤i
 ·have e:l[i - 8]'(by omega)=(A++B)[i - 8]'(by rw [List.length_append]; omega):=by
   have:(l.take i)[i - 8]'(by rw [List.length_take]; omega)=l[i - 8]'(by omega):=List.getElem_take
   rw [← this]
   simp only [hAB]
  rw [decide_eq_true h8,Bool.true_and,e]
  by_cases h7:B.length≤7
  ·rw [decide_eq_true h7,List.getElem_append_left (by omega)]
   have:=hA (A[i - 8]'(by omega)) (List.getElem_mem _)
   rw [beq_eq_false_iff_ne.2 (by omega)]; rfl
  ·rw [decide_eq_false h7,List.getElem_append_right (by omega)]
   rw [hB _ (List.getElem_mem _),beq_self_eq_true]; rfl
 ·rw [decide_eq_false h8,Bool.false_and,decide_eq_true (by omega)]; rfl
theorem zuU (a:Adr):yJ a a=true:=by simp [yJ]
theorem zHO {l:List Plc} {i:Nat} (hi:i < l.length):zoX l i=!((l.take i).any (fun x=>yJ x.a l[i].a)):=by
 unfold zoX
 rw [List.getElem?_eq_getElem hi]
 simp only
 rcases zpn (fun x:Plc=>yJ x.a l[i].a) l 0 with ⟨h1,h2⟩ | ⟨j,hj,h1,h2,h3⟩
 ·have:=h2 l[i] (List.getElem_mem hi)
  simp only [zuU] at this
  cases this
 ·rw [h1,Nat.zero_add]
  by_cases hij:j=i
  ·subst hij
   rw [beq_self_eq_true]
   have:(l.take j).any (fun x=>yJ x.a l[j].a)=false:=by
    rw [List.any_eq_false]
    intro x hx; rw [h2 x hx]; simp
   rw [this]; rfl
  ·have hlt:j < i:=by
    rcases Nat.lt_or_gt_of_ne hij with h | h
    ·exact h
    ·have:=h2 l[i] (List.mem_take_iff_getElem.2 ⟨i,by omega,rfl⟩)
     simp only [zuU] at this
     cases this
   rw [beq_eq_false_iff_ne.2 (by omega)]
   have:(l.take i).any (fun x=>yJ x.a l[i].a)=true:=List.any_eq_true.2 ⟨l[j],List.mem_take_iff_getElem.2 ⟨j,by omega,rfl⟩,h3⟩
   rw [this]; rfl
theorem zHr (bk:Plc→Int) {l:List Plc} {i:Nat} (hi:i < l.length) (h:Srt (l.take i)):zpf bk l i=okS bk [] (l.take i) l[i]:=by
 unfold zpf okS
 rw [List.getElem?_eq_getElem hi]
 simp only
 by_cases hb:l[i].b=bk l[i]
 ·rw [beq_iff_eq.2 hb,Bool.true_and,Bool.true_and,← hb,zHO hi]
  have hl:(l.take i).all (fun x=>decide (x.b≤l[i].b))=!(zkN (l.take i++[l[i]]) i l[i].b):=by
   by_cases ha:∀ x ∈ l.take i,x.b≤l[i].b
   ·rw [← zEP (h.snoc ha) _ i (by rw [List.length_append,List.length_take]; simp; omega),List.take_left' (by rw [List.length_take]; omega)]
   ·have e1:(l.take i).all (fun x=>decide (x.b≤l[i].b))=false:=by
     rw [Bool.eq_false_iff]
     intro hh
     apply ha
     intro x hx
     have:=List.all_eq_true.1 hh x hx
     simpa using this
    rw [e1]
    have hex:∃ x ∈ l.take i,l[i].b < x.b:=by
     apply Classical.byContradiction
     intro hn
     exact ha (fun x hx=>by
      apply Classical.byContradiction
      intro h2
      exact hn ⟨x,hx,by omega⟩)
    obtain ⟨x,hx,hlt⟩:=hex
    obtain ⟨j,hj,rfl⟩:=List.mem_take_iff_getElem.1 hx
    unfold zkN
    rw [List.getElem?_append_left (by rw [List.length_take]; omega),List.getElem?_take_of_lt (by omega),List.getElem?_eq_getElem (by omega)]
    simp only
    have:l[j].b≤(l[i - 1]'(by omega)).b:=by
     by_cases hji:j=i - 1
     ·subst hji; exact Int.le_refl _
     ·have:=List.pairwise_iff_getElem.1 h j (i - 1) (by rw [List.length_take]; omega) (by rw [List.length_take]; omega) (by omega)
      simpa using this
    rw [decide_eq_true (by omega:0 < i),decide_eq_true (by omega)]
    rfl
  have hl2:zkN (l.take i++[l[i]]) i l[i].b=zkN l i l[i].b:=by
   rw [← List.take_succ_eq_append_getElem hi]
   unfold zkN
   by_cases h0:0 < i
   ·rw [List.getElem?_take_of_lt (by omega)]
   ·rw [decide_eq_false h0]
    cases (List.take (i+1) l)[i - 1]? <;> cases l[i - 1]? <;> simp
  rw [hl2] at hl
  rw [hl]
  cases hless:zkN l i l[i].b with
  | true=>rfl
  | false =>
   rw [hless] at hl
   have ha:∀ x ∈ l.take i,x.b≤l[i].b:=fun x hx=>by simpa using List.all_eq_true.1 hl x hx
   rw [zIF hi _ h ha]
   simp [Bool.and_assoc]
 ·rw [beq_eq_false_iff_ne.2 hb]; rfl
theorem zAu (bk:Plc→Int) (l:List Plc):∀ (n i:Nat),i+n=l.length→Srt (l.take i)→zmz (zpf bk l) i n=okA bk [] (l.take i) (l.drop i)
 | 0,i,h,hs=>by rw [List.drop_of_length_le (by omega)]; rfl
 | n+1,i,h,hs=>by
  rw [zmz,List.drop_eq_getElem_cons (by omega),okA,zHr bk (by omega) hs]
  cases ho:okS bk [] (l.take i) (l[i]'(by omega)) with
  | false=>rfl
  | true =>
   have hi:i < l.length:=by omega
   rw [Bool.true_and,Bool.true_and,zAu bk l n (i+1) (by omega) (by rw [List.take_succ_eq_append_getElem hi]; exact hs.snoc (zG9 ho)),List.take_succ_eq_append_getElem hi]
theorem zqt (bk:Plc→Int) (l:List Plc):zeq bk l=(decide (l.length≤512) && okA bk [] [] l):=by
 unfold zeq
 rw [zAu bk l l.length 0 (by omega) (by simp [Srt])]
 rfl
structure TOk (bk:Plc→Int) (N:List Adr) (l:List Plc):Prop where
 b:∀ e ∈ l,e.b=bk e
 s:Srt l
 c:∀ v,zaJ v l≤8
 n:l.Pairwise (fun x y=>yJ x.a y.a=false)
 f:∀ e ∈ l,∀ a ∈ N,yJ a e.a=false
theorem zhx (v:Int) (pre:List Plc) (e:Plc):zaJ v (pre++[e])=zaJ v pre+if e.b=v then 1 else 0:=by
 unfold zaJ
 rw [List.filter_append,List.length_append]
 by_cases h:e.b=v <;> simp [h]
theorem TOk.snoc (bk:Plc→Int) (N:List Adr) (pre:List Plc) (e:Plc):TOk bk N (pre++[e])↔TOk bk N pre∧okS bk N pre e=true:=by
 simp only [okS,Bool.and_eq_true,List.all_eq_true,decide_eq_true_eq,beq_iff_eq,Bool.not_eq_true',List.any_eq_false,Bool.not_eq_true]
 constructor
 ·intro h
  have hs:=List.pairwise_append.1 h.s
  have hn:=List.pairwise_append.1 h.n
  refine ⟨⟨fun x hx=>h.b x (by simp [hx]),hs.1,fun v=>?_,hn.1,fun x hx=>h.f x (by simp [hx])⟩,h.b e (by simp),fun x hx=>hs.2.2 x hx e (by simp),?_,fun x hx=>hn.2.2 x hx e (by simp),h.f e (by simp)⟩
  ·have:=h.c v; rw [zhx] at this; omega
  ·have:=h.c e.b; rw [zhx,if_pos rfl] at this; omega
 ·rintro ⟨h,h1,h2,h3,h4,h5⟩
  refine ⟨?_,h.s.snoc h2,fun v=>?_,?_,?_⟩
  ·intro x hx
   rcases List.mem_append.1 hx with hx | hx
   ·exact h.b x hx
   ·simp at hx; subst hx; exact h1
  ·rw [zhx]
   split
   ·rename_i hv; subst hv; omega
   ·have:=h.c v; omega
  ·rw [List.pairwise_append]
   exact ⟨h.n,by simp,fun x hx y hy=>by simp at hy; subst hy; exact h4 x hx⟩
  ·intro x hx
   rcases List.mem_append.1 hx with hx | hx
   ·exact h.f x hx
   ·simp at hx; subst hx; exact h5
theorem TOk.nil (bk:Plc→Int) (N:List Adr):TOk bk N []:=⟨by simp,List.Pairwise.nil,by simp [zaJ],List.Pairwise.nil,by simp⟩
theorem zBu (bk:Plc→Int) (N:List Adr):∀ (l pre:List Plc),TOk bk N pre→(okA bk N pre l=true↔TOk bk N (pre++l))
 | [],pre,h=>by simp [okA,h]
 | e::l,pre,h=>by
  rw [okA,Bool.and_eq_true,show pre++e::l=(pre++[e])++l by simp]
  constructor
  ·rintro ⟨h1,h2⟩
   exact (zBu bk N l (pre++[e]) ((TOk.snoc bk N pre e).2 ⟨h,h1⟩)).1 h2
  ·intro H
   have hp:TOk bk N (pre++[e]):=by
    have hs:=List.pairwise_append.1 H.s
    have hn:=List.pairwise_append.1 H.n
    refine ⟨fun x hx=>H.b x (List.mem_append_left _ hx),hs.1,fun v=>?_,hn.1,fun x hx=>H.f x (List.mem_append_left _ hx)⟩
    have:=H.c v
    unfold zaJ at this ⊢
    rw [List.filter_append,List.length_append] at this
    omega
   exact ⟨((TOk.snoc bk N pre e).1 hp).2,(zBu bk N l (pre++[e]) hp).2 H⟩
end
section
set_option linter.unusedVariables false
set_option linter.unusedSimpArgs false
variable {β:Type}
theorem zBV (bk:Plc→Int) {l:List Plc} {i:Nat} (h:i < l.length):zpf bk l i=(l[i].b == bk l[i] && !(zkN l i (bk l[i])) && !(full l i (bk l[i])) && zoX l i):=by
 unfold zpf; rw [List.getElem?_eq_getElem h]
theorem zFY (L:Nat) (s:List Int) (hs:s.length=32) (ps:List Plc) (hp:ps.length≤1000) (hL:ps.length < L) (k:Bool→Option β):∀ (m i:Nat),i≤ps.length→ps.length - i < m →
  zbc yf zb zd (L+100) k (k true) m (xR ps) true (i:Int) (row .u8 s)=k (zmz (zpf (fun e=>hbk s e.a e.s) ps) i (ps.length - i)):=by
 intro m
 induction m with
 | zero=>intro i h1 h2; omega
 | succ m IH =>
  intro i h1 h2
  unfold zbc zgg
  rw [xZ]
  by_cases h:i < ps.length
  ·have e1:List.take 3 (List.drop 1 ps[i].v)=ps[i].a.v:=rfl
   have ih:=IH (i+1) (by omega) (by omega)
   have e4:ps.length - i=(ps.length - (i+1))+1:=by omega
   rw [zaQ (by omega),zqR hs,xc (by rw [zcl,hs]; omega),zaZ (zct h),e1,zFC L s hs]
   rw [e4,zmz,zBV _ h]
   rw [zfs,xc (by rw [zcl,hs]; omega),zaZ (zct h),zaZ (zct h),xI (n:=ps[i].s) rfl,e1,zIs L s hs]
   refine (zGJ (L+100) ps hp (by omega) i h _ _ (fun x=>zbc yf zb zd (L+100) k (k true) m (xR ps) true x (row .u8 s))).trans ?_
   rw [ih]
   cases (ps[i].b == hbk s ps[i].a ps[i].s && !(zkN ps i (hbk s ps[i].a ps[i].s)) && !(full ps i (hbk s ps[i].a ps[i].s)) && zoX ps i) <;> rfl
  ·rw [za6 (by omega),show ps.length - i=0 by omega]; rfl
theorem zFk (L:Nat) (s:List Int) (hs:s.length=32) (ps:List Plc) (hp:ps.length≤1000) (hL:ps.length < L) (k:Bool→Option β):∀ (m i:Nat),i≤ps.length→ps.length - i < m →
  zbc yf zb zd (L+100) k (k true) m (xR ps) false (i:Int) (row .u8 s)=k (zmz (zpf (fun e=>tbk s e.a) ps) i (ps.length - i)):=by
 intro m
 induction m with
 | zero=>intro i h1 h2; omega
 | succ m IH =>
  intro i h1 h2
  unfold zbc zgg
  rw [xZ]
  by_cases h:i < ps.length
  ·have e1:List.take 3 (List.drop 1 ps[i].v)=ps[i].a.v:=rfl
   have ih:=IH (i+1) (by omega) (by omega)
   have e4:ps.length - i=(ps.length - (i+1))+1:=by omega
   rw [zaQ (by omega),zqR hs,xc (by rw [zcl,hs]; omega),zaZ (zct h),e1,zFC L s hs]
   rw [e4,zmz,zBV _ h]
   rw [zb1]
   refine (zGJ (L+100) ps hp (by omega) i h _ _ (fun x=>zbc yf zb zd (L+100) k (k true) m (xR ps) false x (row .u8 s))).trans ?_
   rw [ih]
   cases (ps[i].b == tbk s ps[i].a && !(zkN ps i (tbk s ps[i].a)) && !(full ps i (tbk s ps[i].a)) && zoX ps i) <;> rfl
  ·rw [za6 (by omega),show ps.length - i=0 by omega]; rfl
theorem zKj (L:Nat) (s:List Int) (hs:s.length=32) (ps:List Plc) (hp:ps.length≤1000) (hL:ps.length < L) (k:Bool→Option β) :
  yo β (L+100) (row .u8 s) (xR ps) true k=k (zeq (fun e=>hbk s e.a e.s) ps):=by
 unfold yo zii zlN zeq
 rw [xZ,zar]
 by_cases h:ps.length≤512
 ·rw [if_neg (by omega),decide_eq_true h,Bool.true_and]
  refine (zFY L s hs ps hp hL k (L+100) 0 (by omega) (by omega)).trans ?_
  rw [Nat.sub_zero]
 ·rw [if_pos (by omega),decide_eq_false h]; rfl
theorem zJ0 (L:Nat) (s:List Int) (hs:s.length=32) (ps:List Plc) (hp:ps.length≤1000) (hL:ps.length < L) (k:Bool→Option β) :
  yo β (L+100) (row .u8 s) (xR ps) false k=k (zeq (fun e=>tbk s e.a) ps):=by
 unfold yo zii zlN zeq
 rw [xZ,zar]
 by_cases h:ps.length≤512
 ·rw [if_neg (by omega),decide_eq_true h,Bool.true_and]
  refine (zFk L s hs ps hp hL k (L+100) 0 (by omega) (by omega)).trans ?_
  rw [Nat.sub_zero]
 ·rw [if_pos (by omega),decide_eq_false h]; rfl
def hbf (s:List Int) (e:Plc):Int:=hbk s e.a e.s
def tbf (s:List Int) (e:Plc):Int:=tbk s e.a
def zqK (b:Bk):Bool:=zeq (hbf b.salt) b.H && (zeq (tbf b.salt) b.T && b.H.all (fun e=>!(b.T.any (fun x=>yJ x.a e.a))))
theorem zJv (L:Nat) (b:Bk) (hH:b.H.length≤1000) (hT:b.T.length≤1000) (hL:b.T.length < L) (k:Bool→Option β):∀ (m i:Nat),i≤b.H.length→b.H.length - i < m →
  zeh yo zd L k (k true) m (i:Int) b.v=k ((b.H.drop i).all (fun e=>!(b.T.any (fun x=>yJ x.a e.a)))):=by
 intro m
 induction m with
 | zero=>intro i h1 h2; omega
 | succ m IH =>
  intro i h1 h2
  unfold zeh zjD
  rw [zb9 b.g32,xZ]
  by_cases h:i < b.H.length
  ·have e1:List.take 3 (List.drop 1 b.H[i].v)=b.H[i].a.v:=rfl
   rw [zaQ (by omega),zb9 b.g33,zb9 b.g32,zaZ (zct h),e1,zBt L b.T (by omega) hL,zFa,List.drop_eq_getElem_cons h,List.all_cons,yx,zag (by omega)]
   have ih:=IH (i+1) (by omega) (by omega)
   cases (b.T.any fun x=>yJ x.a b.H[i].a) with
   | true=>rfl
   | false=>exact ih
  ·rw [za6 (by omega),List.drop_of_length_le (by omega)]; rfl
theorem Bk.t32 (b:Bk):List.take 32 b.v=row .u8 b.salt:=by
 rw [Bk.v,List.take_left' (by rw [zcl,b.hs])]
theorem zGG (L:Nat) (b:Bk) (hH:b.H.length≤1000) (hT:b.T.length≤1000) (hL:1000 < L) (k:Bool→Option β):yu β (L+100) b.v k=k (zqK b):=by
 unfold yu zlK zpT zqK
 rw [xc (by rw [b.len]; omega),zb9 b.g32,b.t32,zKj L b.salt b.hs b.H hH (by omega)]
 have eH:zeq (fun e=>hbk b.salt e.a e.s) b.H=zeq (hbf b.salt) b.H:=rfl
 have eT:zeq (fun e=>tbk b.salt e.a) b.T=zeq (tbf b.salt) b.T:=rfl
 rw [eH]
 cases zeq (hbf b.salt) b.H with
 | false=>rfl
 | true =>
  rw [Bool.not_true,zb1,xc (by rw [b.len]; omega),zb9 b.g33,zJ0 L b.salt b.hs b.T hT (by omega),eT]
  cases zeq (tbf b.salt) b.T with
  | false=>rfl
  | true =>
   rw [Bool.not_true,zb1]
   exact zJv (L+100) b hH hT (by omega) k (L+100) 0 (by omega) (by omega)
end
section
set_option linter.unusedVariables false
set_option linter.unusedSimpArgs false
variable {β:Type}
theorem zFn (n:Int):0≤IntKind.wrap .u64 n∧IntKind.wrap .u64 n≤18446744073709551615:=by
 unfold IntKind.wrap
 simp only [IntKind.signed,Bool.false_and,Bool.false_eq_true,if_false,IntKind.bits]
 have h1:=Int.emod_nonneg n (show (2 ^ 64:Int)≠0 by decide)
 have h2:=Int.emod_lt_of_pos n (show (0:Int) < 2 ^ 64 by decide)
 omega
theorem zCm (s m1:List Int) (m2:Int→List Int):0≤bkt s m1 m2∧bkt s m1 m2 < 64:=by
 unfold bkt
 generalize hx:zqE (zFw s) (zFL s) (m2 (IntKind.wrap .u32 (Int.tmod (zqE (zFw s) (zFL s) m1) 4)))=x
 have h0:0≤x:=by
  rw [← hx]; unfold zqE zFQ zDb za0; exact (zFn _).1
 have h1:=Int.tmod_nonneg 64 h0
 have h2:=Int.tmod_lt_of_pos x (show (0:Int) < 64 by decide)
 rw [y7 (by omega) (by omega)]
 exact ⟨h1,h2⟩
theorem zBP (s:List Int) (e:Plc):0≤hbf s e∧hbf s e < 64:=by unfold hbf hbk; exact zCm _ _ _
theorem zBO (s:List Int) (e:Plc):0≤tbf s e∧tbf s e < 64:=by unfold tbf tbk; exact zCm _ _ _
def nmv (a:Adr):V:=.agg [.sc (.int .u32 a.h),.sc (.int .u16 a.p)]
def zcG (N:List Adr):List (V × V):=N.map fun a=>(nmv a,.sc (.bool true))
theorem zDW (a b:Adr):ziV (nmv a) (nmv b)=some (yJ a b):=by
 simp [ziV,nmv,zip,yJ]
theorem zhS (a b:Adr):yJ a b=yJ b a:=by
 unfold yJ; rw [Bool.beq_comm (a:=a.h),Bool.beq_comm (a:=a.p)]
theorem zyz (a:Adr):∀ N:List Adr,zqy (nmv a) (zcG N)=some (if N.any (fun x=>yJ x a) then some (.sc (.bool true)) else none)
 | []=>rfl
 | x::N=>by
  have ih:=zyz a N
  simp only [zcG,List.map_cons,zqy,zDW,List.any_cons,zhS x a] at ih ⊢
  cases yJ a x with
  | true=>rfl
  | false=>simpa using ih
theorem zAV (a:Adr):∀ N:List Adr,N.any (fun x=>yJ x a)=false→zy1 (nmv a) (.sc (.bool true)) (zcG N)=some (zcG (N++[a]))
 | [],_=>rfl
 | x::N,h=>by
  rw [List.any_cons,Bool.or_eq_false_iff,zhS] at h
  have ih:=zAV a N h.2
  simp only [zcG,List.map_cons,zy1,zDW,h.1,List.cons_append] at ih ⊢
  rw [ih]; rfl
theorem zBT (a:Adr) (N:List Adr) (K:Bool→Option β):(mAt 4 (V.agg (List.take 2 [(V.sc (.int .u32 a.h)),(V.sc (.int .u16 a.p))])) (zcG N) fun q=>aB (Option.getD q (V.sc (.bool false))) K)=K (N.any (fun x=>yJ x a)):=by
 have e:V.agg (List.take 2 [(V.sc (.int .u32 a.h)),(V.sc (.int .u16 a.p))])=nmv a:=rfl
 rw [e]
 have h:zhU 4 (nmv a)=true:=rfl
 simp only [mAt,h,zyz]
 cases N.any (fun x=>yJ x a) <;> rfl
theorem zzP {a:Adr} {N:List Adr} (h:N.any (fun x=>yJ x a)=false) (K:List (V × V)→Option β):ztj 4 (V.agg (List.take 2 [(V.sc (.int .u32 a.h)),(V.sc (.int .u16 a.p))])) (V.sc (.bool true)) (zcG N) K=K (zcG (N++[a])):=by
 have e:V.agg (List.take 2 [(V.sc (.int .u32 a.h)),(V.sc (.int .u16 a.p))])=nmv a:=rfl
 rw [e]
 have h':zhU 4 (nmv a)=true:=rfl
 simp only [ztj,h',zAV a N h]
theorem zKn (L:Nat) (b:Bk) (e:Plc) (k:Int→List V→Option β):zi β (L+100) e.v b.v k=k (hbf b.salt e) b.v:=by
 unfold zi zjv
 have e1:List.take 3 (List.drop 1 e.v)=e.a.v:=rfl
 rw [xc (by rw [b.len]; omega),xc (by show 1+3≤5; omega),xI (n:=e.s) rfl,b.t32,e1,zJ7 L b.salt b.hs]
 rfl
theorem zKr (L:Nat) (b:Bk) (e:Plc) (k:Int→List V→Option β):xh β (L+100) e.v b.v k=k (tbf b.salt e) b.v:=by
 unfold xh zjC
 have e1:List.take 3 (List.drop 1 e.v)=e.a.v:=rfl
 rw [xc (by rw [b.len]; omega),xc (by show 1+3≤5; omega),b.t32,e1,zKc L b.salt b.hs]
 rfl
theorem zCk {v:Int} {pre:List Plc} (h:∀ x ∈ pre,x.b < v):zaJ v pre=0:=by
 unfold zaJ
 rw [List.filter_eq_nil_iff.2 (fun x hx=>by have:=h x hx; simp; omega)]; rfl
structure Inv (pre:List Plc) (la ru:Int):Prop where
 le:∀ x ∈ pre,x.b≤la
 ru:ru=(zaJ la pre:Nat)
 ex:(la=-1∧pre=[])∨∃ x ∈ pre,x.b=la
 mn:-1≤la
theorem Inv.next {pre:List Plc} {la ru:Int} (h:Inv pre la ru) {e:Plc} (he:la≤e.b):Inv (pre++[e]) e.b ((zaJ e.b (pre++[e]):Nat):Int) :=
 ⟨fun x hx=>by
  rcases List.mem_append.1 hx with hx | hx
  ·have:=h.le x hx; omega
  ·simp at hx; subst hx; exact Int.le_refl _,rfl,.inr ⟨e,by simp,rfl⟩,by have:=h.mn; omega⟩
theorem zGN {bk:Plc→Int} {N:List Adr} {pre:List Plc} {la ru:Int} (h:Inv pre la ru) {e:Plc} (hb:0≤bk e) (he:e.b < la):okS bk N pre e=false:=by
 rw [Bool.eq_false_iff]
 intro H
 have h1:=zG9 H
 rcases h.ex with ⟨h2,h3⟩ | ⟨x,hx,h2⟩
 ·simp only [okS,Bool.and_eq_true,beq_iff_eq] at H
  omega
 ·have:=h1 x hx; omega
theorem zHa {bk:Plc→Int} {N:List Adr} {pre:List Plc} {la ru:Int} (h:Inv pre la ru) {e:Plc} (he:la≤e.b):okS bk N pre e=(e.b == bk e && (decide (zaJ e.b (pre++[e])≤8) && !((N++pre.map Plc.a).any (fun a=>yJ a e.a)))):=by
 unfold okS
 have h1:pre.all (fun x=>decide (x.b≤e.b))=true:=List.all_eq_true.2 fun x hx=>decide_eq_true (by have:=h.le x hx; omega)
 rw [h1,Bool.true_and,zhx,if_pos rfl,List.any_append,List.any_map,Bool.not_or]
 have e1:decide (zaJ e.b pre+1≤8)=decide (zaJ e.b pre≤7):=decide_eq_decide.2 (by omega)
 rw [e1]
 congr 2
 rw [Bool.and_comm]; rfl
theorem zFy (L:Nat) (b:Bk) (l:List Plc) (hl:l.length≤1000) (N:List Adr) (kr:Bool→List (V × V)→List V→Option β) (kx:List (V × V)→List V→Option β) (R:Option β) (hr:∀ mp,kr false mp b.v=R):∀ (m i:Nat) (la ru:Int),i≤l.length→l.length - i < m→Inv (l.take i) la ru →
  zb0 zi (L+100) kr kx m la ru (xR l) ((l.length:Nat):Int) (i:Int) (zcG (N++(l.take i).map Plc.a)) b.v=ifb (okA (hbf b.salt) N (l.take i) (l.drop i)) (kx (zcG (N++l.map Plc.a)) b.v) R:=by
 intro m
 induction m with
 | zero=>intro i la ru h1 h2; omega
 | succ m IH =>
  intro i la ru h1 h2 hi
  unfold zb0 zgA
  by_cases h:i < l.length
  ·have e1:List.take 5 l[i].v=l[i].v:=rfl
   have e2:xg [(V.sc (.int .i64 (0:Int))),(V.sc (.int .u32 (0:Int))),(V.sc (.int .u16 (0:Int))),(V.sc (.int .u32 (0:Int))),(V.sc (.int .u32 (0:Int)))] 0 l[i].v=l[i].v:=zc3 rfl
   have hcl:zaJ la (l.take i)≤l.length:=by
    unfold zaJ
    exact Nat.le_trans (List.length_filter_le _ _) (by rw [List.length_take]; omega)
   rw [zaQ (by omega),zaZ (zct h),e1,xc ⟨rfl,by omega⟩,yx,e2,xI (n:=l[i].b) rfl,zar,List.drop_eq_getElem_cons h,okA]
   by_cases hlt:l[i].b < la
   ·rw [if_pos hlt,zGN hi (zBP _ _).1 hlt,Bool.false_and,hr]; rfl
   ·rw [if_neg hlt,xI (n:=l[i].b) rfl,xc (by show 0+5≤5; omega),e1,zKn,xc rfl,zmC,zHa hi (by omega)]
    by_cases hb:l[i].b=hbf b.salt l[i]
    ·have hi':=hi.next (e:=l[i]) (by omega)
     have key:∀ ru':Int,ru'=((zaJ l[i].b (l.take i++[l[i]]):Nat):Int) →
       (cI .u32 l[i].v 1 fun v9 =>
        cI .u16 l[i].v 2 fun v10 =>
        lt [(V.sc (.int .u32 v9)),(V.sc (.int .u16 v10))] fun r11 =>
        ifb (decide (ru' > (8:Int))) (
        kr false (zcG (N++(l.take i).map Plc.a)) b.v) (
        chk (0+2≤(List.length r11)) (
        mAt 4 (V.agg (List.take 2 r11)) (zcG (N++(l.take i).map Plc.a)) fun q12 =>
        aB (Option.getD q12 (V.sc (.bool false))) fun v13 =>
        ifb v13 (
        kr false (zcG (N++(l.take i).map Plc.a)) b.v) (
        chk (0+2≤(List.length r11)) (
        ztj 4 (V.agg (List.take 2 r11)) (V.sc (.bool true)) (zcG (N++(l.take i).map Plc.a)) fun m14 =>
        lt (IntKind.wrap .i64 ((i:Int)+(1:Int))) fun x15 =>
        zb0 zi (L+100) kr kx m l[i].b ru' (xR l) ((l.length:Nat):Int) x15 m14 b.v)))))
       = ifb (decide (zaJ l[i].b (l.take i++[l[i]])≤8) && !((N++(l.take i).map Plc.a).any (fun a=>yJ a l[i].a)) && okA (hbf b.salt) N (l.take i++[l[i]]) (l.drop (i+1))) (kx (zcG (N++l.map Plc.a)) b.v) R:=by
      intro ru' hru
      rw [xI (n:=l[i].a.h) rfl,xI (n:=l[i].a.p) rfl,yx,zar]
      by_cases hc:zaJ l[i].b (l.take i++[l[i]])≤8
      ·rw [if_neg (by omega),decide_eq_true hc,Bool.true_and,xc (by show 0+2≤2; omega),zBT]
       cases ha:(N++(l.take i).map Plc.a).any (fun a=>yJ a l[i].a) with
       | true=>exact hr _
       | false =>
        rw [zb1,xc (by show 0+2≤2; omega),zzP ha,yx,zag (by omega)]
        have ih:=IH (i+1) l[i].b ru' (by omega) (by omega) (by rw [List.take_succ_eq_append_getElem h,hru]; exact hi')
        rw [List.take_succ_eq_append_getElem h,List.map_append,List.map_cons,List.map_nil,← List.append_assoc] at ih
        exact ih
      ·rw [if_pos (by omega),decide_eq_false hc,hr]; rfl
     rw [if_pos hb,xI (n:=l[i].b) rfl,zmC,beq_iff_eq.2 hb,Bool.true_and]
     by_cases hll:l[i].b=la
     ·rw [if_pos hll,yx,← hll]
      have e3:IntKind.wrap .i64 (ru+1)=((zaJ l[i].b (l.take i++[l[i]]):Nat):Int):=by
       rw [hi.ru,y7 (by omega) (by omega),zhx,if_pos rfl,hll]; omega
      exact key _ e3
     ·rw [if_neg hll,xI (n:=l[i].b) rfl,yx]
      have e3:IntKind.wrap .i64 (((0:Int):Int)+1)=((zaJ l[i].b (l.take i++[l[i]]):Nat):Int):=by
       rw [y7 (by omega) (by omega),zhx,if_pos rfl,zCk (fun x hx=>by have:=hi.le x hx; omega)]; rfl
      exact key _ e3
    ·rw [if_neg hb,beq_eq_false_iff_ne.2 hb,hr]; rfl
  ·rw [za6 (by omega),List.drop_of_length_le (by omega),List.take_of_length_le (by omega)]; rfl
theorem zJ5 (L:Nat) (b:Bk) (l:List Plc) (hl:l.length≤1000) (hL:1000 < L) (N:List Adr) (k:Bool→List (V × V)→List V→Option β) (R:Option β) (hr:∀ mp,k false mp b.v=R) :
  zT β (L+100) (xR l) (zcG N) b.v k=ifb (decide (l.length≤512) && okA (hbf b.salt) N [] l) (k true (zcG (N++l.map Plc.a)) b.v) R:=by
 unfold zT zie zlR
 rw [xZ,zar]
 by_cases h:l.length≤512
 ·rw [if_neg (by omega),decide_eq_true h,Bool.true_and,show ((0:Int))=((0:Nat):Int) from rfl]
  have:=zFy L b l hl N (fun p6 b0 b1=>zeX zi (L+100) p6 b0 b1 k) (fun b0 b1=>zfd zi (L+100) b0 b1 k) R (fun mp=>hr mp) (L+100) 0 (-1) 0 (by omega) (by omega) ⟨by simp,rfl,.inl ⟨rfl,rfl⟩,by omega⟩
  rw [List.take_zero,List.drop_zero,List.map_nil,List.append_nil] at this
  exact this
 ·rw [if_pos (by omega),decide_eq_false h,hr]; rfl
theorem zF6 (L:Nat) (b:Bk) (l:List Plc) (hl:l.length≤1000) (N:List Adr) (kr:Bool→List (V × V)→List V→Option β) (kx:List (V × V)→List V→Option β) (R:Option β) (hr:∀ mp,kr false mp b.v=R):∀ (m i:Nat) (la ru:Int),i≤l.length→l.length - i < m→Inv (l.take i) la ru →
  zbs xh (L+100) kr kx m la ru (xR l) ((l.length:Nat):Int) (i:Int) (zcG (N++(l.take i).map Plc.a)) b.v=ifb (okA (tbf b.salt) N (l.take i) (l.drop i)) (kx (zcG (N++l.map Plc.a)) b.v) R:=by
 intro m
 induction m with
 | zero=>intro i la ru h1 h2; omega
 | succ m IH =>
  intro i la ru h1 h2 hi
  unfold zbs ze9
  by_cases h:i < l.length
  ·have e1:List.take 5 l[i].v=l[i].v:=rfl
   have e2:xg [(V.sc (.int .i64 (0:Int))),(V.sc (.int .u32 (0:Int))),(V.sc (.int .u16 (0:Int))),(V.sc (.int .u32 (0:Int))),(V.sc (.int .u32 (0:Int)))] 0 l[i].v=l[i].v:=zc3 rfl
   have hcl:zaJ la (l.take i)≤l.length:=by
    unfold zaJ
    exact Nat.le_trans (List.length_filter_le _ _) (by rw [List.length_take]; omega)
   rw [zaQ (by omega),zaZ (zct h),e1,xc ⟨rfl,by omega⟩,yx,e2,xI (n:=l[i].b) rfl,zar,List.drop_eq_getElem_cons h,okA]
   by_cases hlt:l[i].b < la
   ·rw [if_pos hlt,zGN hi (zBO _ _).1 hlt,Bool.false_and,hr]; rfl
   ·rw [if_neg hlt,xI (n:=l[i].b) rfl,xc (by show 0+5≤5; omega),e1,zKr,xc rfl,zmC,zHa hi (by omega)]
    by_cases hb:l[i].b=tbf b.salt l[i]
    ·have hi':=hi.next (e:=l[i]) (by omega)
     have key:∀ ru':Int,ru'=((zaJ l[i].b (l.take i++[l[i]]):Nat):Int) →
       (cI .u32 l[i].v 1 fun v9 =>
        cI .u16 l[i].v 2 fun v10 =>
        lt [(V.sc (.int .u32 v9)),(V.sc (.int .u16 v10))] fun r11 =>
        ifb (decide (ru' > (8:Int))) (
        kr false (zcG (N++(l.take i).map Plc.a)) b.v) (
        chk (0+2≤(List.length r11)) (
        mAt 4 (V.agg (List.take 2 r11)) (zcG (N++(l.take i).map Plc.a)) fun q12 =>
        aB (Option.getD q12 (V.sc (.bool false))) fun v13 =>
        ifb v13 (
        kr false (zcG (N++(l.take i).map Plc.a)) b.v) (
        chk (0+2≤(List.length r11)) (
        ztj 4 (V.agg (List.take 2 r11)) (V.sc (.bool true)) (zcG (N++(l.take i).map Plc.a)) fun m14 =>
        lt (IntKind.wrap .i64 ((i:Int)+(1:Int))) fun x15 =>
        zbs xh (L+100) kr kx m l[i].b ru' (xR l) ((l.length:Nat):Int) x15 m14 b.v)))))
       = ifb (decide (zaJ l[i].b (l.take i++[l[i]])≤8) && !((N++(l.take i).map Plc.a).any (fun a=>yJ a l[i].a)) && okA (tbf b.salt) N (l.take i++[l[i]]) (l.drop (i+1))) (kx (zcG (N++l.map Plc.a)) b.v) R:=by
      intro ru' hru
      rw [xI (n:=l[i].a.h) rfl,xI (n:=l[i].a.p) rfl,yx,zar]
      by_cases hc:zaJ l[i].b (l.take i++[l[i]])≤8
      ·rw [if_neg (by omega),decide_eq_true hc,Bool.true_and,xc (by show 0+2≤2; omega),zBT]
       cases ha:(N++(l.take i).map Plc.a).any (fun a=>yJ a l[i].a) with
       | true=>exact hr _
       | false =>
        rw [zb1,xc (by show 0+2≤2; omega),zzP ha,yx,zag (by omega)]
        have ih:=IH (i+1) l[i].b ru' (by omega) (by omega) (by rw [List.take_succ_eq_append_getElem h,hru]; exact hi')
        rw [List.take_succ_eq_append_getElem h,List.map_append,List.map_cons,List.map_nil,← List.append_assoc] at ih
        exact ih
      ·rw [if_pos (by omega),decide_eq_false hc,hr]; rfl
     rw [if_pos hb,xI (n:=l[i].b) rfl,zmC,beq_iff_eq.2 hb,Bool.true_and]
     by_cases hll:l[i].b=la
     ·rw [if_pos hll,yx,← hll]
      have e3:IntKind.wrap .i64 (ru+1)=((zaJ l[i].b (l.take i++[l[i]]):Nat):Int):=by
       rw [hi.ru,y7 (by omega) (by omega),zhx,if_pos rfl,hll]; omega
      exact key _ e3
     ·rw [if_neg hll,xI (n:=l[i].b) rfl,yx]
      have e3:IntKind.wrap .i64 (((0:Int):Int)+1)=((zaJ l[i].b (l.take i++[l[i]]):Nat):Int):=by
       rw [y7 (by omega) (by omega),zhx,if_pos rfl,zCk (fun x hx=>by have:=hi.le x hx; omega)]; rfl
      exact key _ e3
    ·rw [if_neg hb,beq_eq_false_iff_ne.2 hb,hr]; rfl
  ·rw [za6 (by omega),List.drop_of_length_le (by omega),List.take_of_length_le (by omega)]; rfl
theorem zJ4 (L:Nat) (b:Bk) (l:List Plc) (hl:l.length≤1000) (hL:1000 < L) (N:List Adr) (k:Bool→List (V × V)→List V→Option β) (R:Option β) (hr:∀ mp,k false mp b.v=R) :
  zO β (L+100) (xR l) (zcG N) b.v k=ifb (decide (l.length≤512) && okA (tbf b.salt) N [] l) (k true (zcG (N++l.map Plc.a)) b.v) R:=by
 unfold zO zgi zkb
 rw [xZ,zar]
 by_cases h:l.length≤512
 ·rw [if_neg (by omega),decide_eq_true h,Bool.true_and,show ((0:Int))=((0:Nat):Int) from rfl]
  have:=zF6 L b l hl N (fun p6 b0 b1=>zef xh (L+100) p6 b0 b1 k) (fun b0 b1=>zeC xh (L+100) b0 b1 k) R (fun mp=>hr mp) (L+100) 0 (-1) 0 (by omega) (by omega) ⟨by simp,rfl,.inl ⟨rfl,rfl⟩,by omega⟩
  rw [List.take_zero,List.drop_zero,List.map_nil,List.append_nil] at this
  exact this
 ·rw [if_pos (by omega),decide_eq_false h,hr]; rfl
def zxB (b:Bk):Bool:=(decide (b.H.length≤512) && okA (hbf b.salt) [] [] b.H) && (decide (b.T.length≤512) && okA (tbf b.salt) (b.H.map Plc.a) [] b.T)
theorem zJD (L:Nat) (b:Bk) (hH:b.H.length≤1000) (hT:b.T.length≤1000) (hL:1000 < L) (k:Bool→Option β):xk β (L+100) b.v k=k (zxB b):=by
 unfold xk zlZ zxB
 rw [zb9 b.g32]
 refine (zJ5 L b b.H hH hL [] _ (k false) (fun mp=>xc rfl _)).trans ?_
 rw [List.nil_append]
 cases (decide (b.H.length≤512) && okA (hbf b.salt) [] [] b.H) with
 | false=>rfl
 | true =>
  rw [zfs,xc rfl,zfs,zb9 b.g33]
  refine (zJ4 L b b.T hT hL _ _ (k false) (fun mp=>xc rfl _)).trans ?_
  cases (decide (b.T.length≤512) && okA (tbf b.salt) (b.H.map Plc.a) [] b.T) with
  | false=>rfl
  | true=>exact xc rfl _
theorem zKg (bk:Plc→Int) (N:List Adr) (pre:List Plc) (e:Plc):okS bk N pre e=(okS bk [] pre e && !(N.any (fun a=>yJ a e.a))):=by
 unfold okS
 simp [Bool.and_assoc]
theorem zIz (bk:Plc→Int) (N:List Adr):∀ (l pre:List Plc),okA bk N pre l=(okA bk [] pre l && l.all (fun e=>!(N.any (fun a=>yJ a e.a))))
 | [],pre=>rfl
 | e::l,pre=>by
  rw [okA,okA,zKg,zIz bk N l,List.all_cons]
  cases okS bk [] pre e <;> cases (N.any (fun a=>yJ a e.a)) <;> simp
theorem zHW (H T:List Plc):T.all (fun e=>!((H.map Plc.a).any (fun a=>yJ a e.a)))=H.all (fun e=>!(T.any (fun x=>yJ x.a e.a))):=by
 rw [Bool.eq_iff_iff]
 simp only [List.all_eq_true,Bool.not_eq_true',List.any_eq_false,List.mem_map,Bool.not_eq_true,forall_exists_index,and_imp,forall_apply_eq_imp_iff₂]
 constructor
 ·intro h x hx e he; rw [zhS]; exact h e he x hx
 ·intro h x hx e he; rw [zhS]; exact h e he x hx
theorem zIo (b:Bk):zxB b=zqK b:=by
 unfold zxB zqK
 rw [zqt,zqt,zIz (tbf b.salt) (b.H.map Plc.a),zHW]
 simp [Bool.and_assoc]
end
section
set_option linter.unusedVariables false
set_option linter.unusedSimpArgs false
def zaf (l:List Plc) (v:Int):Nat:=(l.takeWhile (fun x=>decide (x.b < v))).length
def toN (l:List Plc) (v:Int):Nat:=zaf l v+((l.drop (zaf l v)).takeWhile (fun x=>x.b == v)).length
def zk2 (l:List Plc) (p:Plc):List Plc:=l.take (toN l p.b)++[p]++l.drop (toN l p.b)
def zfU (l:List Plc) (i:Nat):List Plc:=l.take i++l.drop (i+1)
def zIf (t:Int) (e:Plc):Plc:=⟨e.b,⟨e.a.h,e.a.p,zFA e.a.t t⟩,e.s⟩
def zuK (l:List Plc) (i:Nat) (t:Int):List Plc:=l.modify i (zIf t)
def zwh (l:List Plc) (i:Nat):Int:=match l[i]? with | some e=>e.a.t | none=>0
def zlo (l:List Plc):Nat→Nat→Nat→Nat
 | 0,_,m=>m
 | n+1,i,m=>zlo l n (i+1) (if zwh l i < zwh l m then i else m)
def zkk (b:Bk) (a:Adr) (src:Int):Bk × Bool :=
 if zex (fun x=>yJ x.a a) b.T 0 ≥ 0 then (⟨b.salt,b.H,zuK b.T (zex (fun x=>yJ x.a a) b.T 0).toNat a.t,b.hs⟩,false)
 else if zex (fun x=>yJ x.a a) b.H 0 ≥ 0 then (⟨b.salt,zuK b.H (zex (fun x=>yJ x.a a) b.H 0).toNat a.t,b.T,b.hs⟩,false)
 else if toN b.H (hbk b.salt a src) - zaf b.H (hbk b.salt a src) ≥ 8 then
  (if zwh b.H (zlo b.H (toN b.H (hbk b.salt a src) - zaf b.H (hbk b.salt a src)) (zaf b.H (hbk b.salt a src)) (zaf b.H (hbk b.salt a src))) ≥ a.t then (b,false)
   else (⟨b.salt,zk2 (zfU b.H (zlo b.H (toN b.H (hbk b.salt a src) - zaf b.H (hbk b.salt a src)) (zaf b.H (hbk b.salt a src)) (zaf b.H (hbk b.salt a src)))) ⟨hbk b.salt a src,a,src⟩,b.T,b.hs⟩,true))
 else (⟨b.salt,zk2 b.H ⟨hbk b.salt a src,a,src⟩,b.T,b.hs⟩,true)
def zfi (b:Bk) (e:Plc):Plc:=⟨tbk b.salt e.a,e.a,e.s⟩
def zuE (b:Bk) (i:Nat) (e:Plc):Bk :=
 if toN b.T (tbk b.salt e.a) - zaf b.T (tbk b.salt e.a) ≥ 8 then
  (match b.T[zaf b.T (tbk b.salt e.a)]? with
   | some o=>(zkk ⟨b.salt,zfU b.H i,zk2 (zfU b.T (zaf b.T (tbk b.salt e.a))) (zfi b e),b.hs⟩ o.a (grp o.a)).1
   | none=>b)
 else ⟨b.salt,zfU b.H i,zk2 b.T (zfi b e),b.hs⟩
theorem Srt.split3 {l:List Plc} (v:Int) (h:Srt l):∃ A B C:List Plc,l=A++(B++C)∧(∀ x ∈ A,x.b < v)∧(∀ x ∈ B,x.b=v)∧(∀ x ∈ C,v < x.b):=by
 induction l with
 | nil=>exact ⟨[],[],[],rfl,by simp,by simp,by simp⟩
 | cons x l ih =>
  have h':=List.pairwise_cons.1 h
  obtain ⟨A,B,C,rfl,hA,hB,hC⟩:=ih h'.2
  by_cases hx:x.b < v
  ·exact ⟨x::A,B,C,rfl,by simpa using ⟨hx,hA⟩,hB,hC⟩
  ·have eA:A=[]:=by
    cases A with
    | nil=>rfl
    | cons a A =>
     have h1:=hA a (by simp)
     have h2:=h'.1 a (by simp)
     omega
   subst eA
   by_cases hxv:x.b=v
   ·exact ⟨[],x::B,C,rfl,by simp,by simpa using ⟨hxv,hB⟩,hC⟩
   ·have eB:B=[]:=by
     cases B with
     | nil=>rfl
     | cons a B =>
      have h1:=hB a (by simp)
      have h2:=h'.1 a (by simp)
      omega
    subst eB
    exact ⟨[],[],x::C,rfl,by simp,by simp,by simpa using ⟨by omega,hC⟩⟩
theorem zuL {A B C:List Plc} {v:Int} (hA:∀ x ∈ A,x.b < v) (hB:∀ x ∈ B,x.b=v) (hC:∀ x ∈ C,v < x.b):zaf (A++(B++C)) v=A.length:=by
 unfold zaf
 rw [List.takeWhile_append_of_pos (fun x hx=>decide_eq_true (hA x hx))]
 have:(B++C).takeWhile (fun x=>decide (x.b < v))=[]:=by
  cases B with
  | cons b B=>rw [List.cons_append,List.takeWhile_cons,if_neg (by have:=hB b (by simp); simp; omega)]
  | nil=>cases C with
   | nil=>rfl
   | cons c C=>rw [List.nil_append,List.takeWhile_cons,if_neg (by have:=hC c (by simp); simp; omega)]
 rw [this,List.append_nil]
theorem zzj {A B C:List Plc} {v:Int} (hA:∀ x ∈ A,x.b < v) (hB:∀ x ∈ B,x.b=v) (hC:∀ x ∈ C,v < x.b):toN (A++(B++C)) v=A.length+B.length:=by
 unfold toN
 rw [zuL hA hB hC,List.drop_left' rfl,List.takeWhile_append_of_pos (fun x hx=>beq_iff_eq.2 (hB x hx))]
 have:C.takeWhile (fun x=>x.b == v)=[]:=by
  cases C with
  | nil=>rfl
  | cons c C=>rw [List.takeWhile_cons,if_neg (by have:=hC c (by simp); simp; omega)]
 rw [this,List.append_nil]
theorem zw7 {A B C:List Plc} {p:Plc} (hA:∀ x ∈ A,x.b < p.b) (hB:∀ x ∈ B,x.b=p.b) (hC:∀ x ∈ C,p.b < x.b):zk2 (A++(B++C)) p=A++(B++(p::C)):=by
 unfold zk2
 rw [zzj hA hB hC,← List.append_assoc,List.take_left' (by simp),List.drop_left' (by simp)]
 simp
theorem ztH {l' l:List Plc} (h:l'.Sublist l) (v:Int):zaJ v l'≤zaJ v l:=(h.filter _).length_le
theorem TOk.sub {bk:Plc→Int} {N:List Adr} {l l':List Plc} (h:TOk bk N l) (hs:l'.Sublist l):TOk bk N l' :=
 ⟨fun e he=>h.b e (hs.subset he),h.s.sublist hs,fun v=>Nat.le_trans (ztH hs v) (h.c v),h.n.sublist hs,fun e he=>h.f e (hs.subset he)⟩
theorem zez (l:List Plc) (i:Nat):(zfU l i).Sublist l:=by
 unfold zfU
 rw [← List.eraseIdx_eq_take_drop_succ]
 exact List.eraseIdx_sublist l i
theorem ztp {l:List Plc} {p x:Plc} (h:x ∈ zk2 l p):x=p∨x ∈ l:=by
 unfold zk2 at h
 simp only [List.mem_append,List.mem_singleton] at h
 rcases h with (h | h) | h
 ·exact .inr (List.mem_of_mem_take h)
 ·exact .inl h
 ·exact .inr (List.mem_of_mem_drop h)
theorem TOk.ins {bk:Plc→Int} {N:List Adr} {l:List Plc} (h:TOk bk N l) {p:Plc} (hb:p.b=bk p) (hc:zaJ p.b l≤7) (hn:∀ x ∈ l,yJ x.a p.a=false) (hf:∀ a ∈ N,yJ a p.a=false):TOk bk N (zk2 l p):=by
 obtain ⟨A,B,C,rfl,hA,hB,hC⟩:=h.s.split3 p.b
 have hs:=h.s
 have hnn:=h.n
 refine ⟨fun e he=>?_,?_,fun v=>?_,?_,fun e he=>?_⟩
 ·rcases ztp he with rfl | he
  ·exact hb
  ·exact h.b e he
 ·rw [zw7 hA hB hC]
  unfold Srt at hs ⊢
  simp only [List.pairwise_append,List.pairwise_cons,List.mem_append,List.mem_cons] at hs ⊢
  obtain ⟨sA,⟨sB,sC,sBC⟩,sABC⟩:=hs
  refine ⟨sA,⟨sB,⟨fun c hc=>Int.le_of_lt (hC c hc),sC⟩,?_⟩,?_⟩
  ·rintro x hx y (rfl | hy)
   ·rw [hB x hx]; exact Int.le_refl _
   ·exact sBC x hx y hy
  ·rintro x hx y (hy | rfl | hy)
   ·exact sABC x hx y (.inl hy)
   ·exact Int.le_of_lt (hA x hx)
   ·exact sABC x hx y (.inr hy)
 ·have hv:=h.c v
  rw [zw7 hA hB hC]
  have e:zaJ v (A++(B++p::C))=zaJ v (A++(B++C))+if p.b=v then 1 else 0:=by
   unfold zaJ
   simp only [List.filter_append,List.length_append,List.filter_cons,beq_iff_eq]
   split <;> simp <;> omega
  rw [e]
  split
  ·rename_i hp; rw [← hp]; omega
  ·omega
 ·rw [zw7 hA hB hC]
  simp only [List.mem_append] at hn
  simp only [List.pairwise_append,List.pairwise_cons,List.mem_append,List.mem_cons] at hnn ⊢
  obtain ⟨sA,⟨sB,sC,sBC⟩,sABC⟩:=hnn
  refine ⟨sA,⟨sB,⟨fun c hc=>by rw [zhS]; exact hn c (.inr (.inr hc)),sC⟩,?_⟩,?_⟩
  ·rintro x hx y (rfl | hy)
   ·exact hn x (.inr (.inl hx))
   ·exact sBC x hx y hy
  ·rintro x hx y (hy | rfl | hy)
   ·exact sABC x hx y (.inl hy)
   ·exact hn x (.inl hx)
   ·exact sABC x hx y (.inr hy)
 ·rcases ztp he with rfl | he
  ·exact hf
  ·exact h.f e he
theorem zDM {bk:Plc→Int} {N:List Adr} {l:List Plc} (h:TOk bk N l) (v:Int):toN l v - zaf l v=zaJ v l:=by
 obtain ⟨A,B,C,rfl,hA,hB,hC⟩:=h.s.split3 v
 rw [zzj hA hB hC,zuL hA hB hC]
 unfold zaJ
 rw [List.filter_append,List.filter_append,List.filter_eq_nil_iff.2 (fun x hx=>by have:=hA x hx; simp; omega),List.filter_eq_self.2 (fun x hx=>by simp [hB x hx]),List.filter_eq_nil_iff.2 (fun x hx=>by have:=hC x hx; simp; omega)]
 simp
theorem zxp (l:List Plc) (v:Int):zaf l v≤toN l v∧toN l v≤l.length:=by
 unfold toN
 have h1:zaf l v≤l.length:=by unfold zaf; exact (List.takeWhile_sublist _).length_le
 have h2:=(List.takeWhile_sublist (fun x:Plc=>x.b == v) (l:=l.drop (zaf l v))).length_le
 rw [List.length_drop] at h2
 omega
theorem zCp {bk:Plc→Int} {N:List Adr} {l:List Plc} (h:TOk bk N l) {v:Int} {i:Nat} (h1:zaf l v≤i) (h2:i < toN l v) (hi:i < l.length):l[i].b=v:=by
 obtain ⟨A,B,C,rfl,hA,hB,hC⟩:=h.s.split3 v
 rw [zzj hA hB hC] at h2
 rw [zuL hA hB hC] at h1
 rw [List.getElem_append_right h1,List.getElem_append_left (by omega)]
 exact hB _ (List.getElem_mem _)
theorem zE4 {bk:Plc→Int} {N:List Adr} {l:List Plc} (h:TOk bk N l) {i:Nat} (hi:i < l.length):zaJ l[i].b (zfU l i)≤7:=by
 have key:∀ v,l[i].b=v→zaJ v l=zaJ v (zfU l i)+1:=by
  intro v hv
  have e:l=l.take i++(l[i]::l.drop (i+1)):=by rw [← List.drop_eq_getElem_cons hi,List.take_append_drop]
  refine (congrArg (zaJ v) e).trans ?_
  unfold zaJ zfU
  rw [List.filter_append,List.filter_append,List.filter_cons,if_pos (by simp [hv])]
  simp
  omega
 have hc:=h.c l[i].b
 have:=key _ rfl
 omega
def zbP (e:Plc):Int × Int × Int × Int:=(e.b,e.a.h,e.a.p,e.s)
theorem zsx {α β:Type} (f:α→α) (g:α→β) (h:∀ x,g (f x)=g x):∀ (l:List α) (i:Nat),(l.modify i f).map g=l.map g
 | [],i=>by cases i <;> rfl
 | x::l,0=>by simp [List.modify,h]
 | x::l,i+1=>by simpa using zsx f g h l i
theorem zq2 (l:List Plc) (i:Nat) (t:Int):(zuK l i t).map zbP=l.map zbP:=zsx (zIf t) zbP (fun _=>rfl) l i
theorem zCa {x y x' y':Plc} (hx:zbP x=zbP x') (hy:zbP y=zbP y'):yJ x.a y.a=yJ x'.a y'.a:=by
 simp only [zbP,Prod.mk.injEq] at hx hy
 simp only [yJ,hx.2.1,hx.2.2.1,hy.2.1,hy.2.2.1]
theorem zxC {l l':List Plc} (hk:l'.map zbP=l.map zbP) {x:Plc} (hx:x ∈ l'):∃ y ∈ l,zbP y=zbP x:=by
 have:=List.mem_map_of_mem (f:=zbP) hx
 rw [hk] at this
 obtain ⟨y,h1,h2⟩:=List.mem_map.1 this
 exact ⟨y,h1,h2⟩
theorem TOk.key {bk:Plc→Int} (hbk:∀ x y,zbP x=zbP y→bk x=bk y) {l l':List Plc} (h:TOk bk [] l) (hk:l'.map zbP=l.map zbP):TOk bk [] l':=by
 refine ⟨fun e he=>?_,?_,fun v=>?_,?_,by simp⟩
 ·obtain ⟨y,h1,h2⟩:=zxC hk he
  have:=h.b y h1
  rw [← hbk y e h2,← this]
  simp only [zbP,Prod.mk.injEq] at h2
  exact h2.1.symm
 ·have h1:(l.map zbP).Pairwise (fun x y=>x.1≤y.1):=List.pairwise_map.2 h.s
  rw [← hk] at h1
  have h2:l'.Pairwise (fun x y=>(zbP x).1≤(zbP y).1):=(List.pairwise_map (f:=zbP) (R:=fun x y=>x.1≤y.1)).1 h1
  exact h2
 ·have e:∀ m:List Plc,zaJ v m=((m.map zbP).filter (fun x=>x.1 == v)).length:=by
   intro m
   unfold zaJ
   rw [List.filter_map,List.length_map]
   rfl
  rw [e,hk,← e]; exact h.c v
 ·have h1:(l.map zbP).Pairwise (fun x y=>(x.2.1 == y.2.1 && x.2.2.1 == y.2.2.1)=false):=List.pairwise_map.2 h.n
  rw [← hk] at h1
  have h2:l'.Pairwise (fun x y=>((zbP x).2.1 == (zbP y).2.1 && (zbP x).2.2.1 == (zbP y).2.2.1)=false):=List.pairwise_map.1 h1
  exact h2
theorem zIZ (s:List Int) (x y:Plc) (h:zbP x=zbP y):hbf s x=hbf s y:=by
 simp only [zbP,Prod.mk.injEq] at h
 simp only [hbf,hbk,grp,h.2.1,h.2.2.2]
theorem zJh (s:List Int) (x y:Plc) (h:zbP x=zbP y):tbf s x=tbf s y:=by
 simp only [zbP,Prod.mk.injEq] at h
 simp only [tbf,tbk,grp,h.2.1,h.2.2.1]
structure SndB (b:Bk):Prop where
 h:TOk (hbf b.salt) [] b.H
 t:TOk (tbf b.salt) [] b.T
 d:∀ x ∈ b.H,∀ y ∈ b.T,yJ y.a x.a=false
theorem zGB (l:List Plc):∀ (n:Nat) (l:List Plc),(∀ e ∈ l,0≤e.b∧e.b < n)→(∀ v,zaJ v l≤8)→l.length≤8 * n
 | 0,l,h,_=>by
  cases l with
  | nil=>simp
  | cons x l=>have:=h x (by simp); omega
 | n+1,l,h,hc=>by
  have ih:=zGB l n (l.filter (fun e=>!(e.b == (n:Int)))) (fun e he=>by
   have h1:=List.mem_filter.1 he
   have h2:=h e h1.1
   have h3:¬ e.b=n:=by simpa using h1.2
   omega) (fun v=>Nat.le_trans (ztH List.filter_sublist v) (hc v))
  have h1:=hc n
  have h2:l.length=(l.filter (fun e=>e.b == (n:Int))).length+(l.filter (fun e=>!(e.b == (n:Int)))).length:=by
   clear ih hc h h1
   induction l with
   | nil=>rfl
   | cons x l ih=>by_cases hx:x.b=n <;> simp [hx] <;> omega
  unfold zaJ at h1
  omega
theorem TOk.len {bk:Plc→Int} {N:List Adr} {l:List Plc} (h:TOk bk N l) (hb:∀ e,0≤bk e∧bk e < 64):l.length≤512 :=
 zGB l 64 l (fun e he=>by have:=hb e; rw [h.b e he]; exact this) h.c
theorem SndB.lenH {b:Bk} (h:SndB b):b.H.length≤512:=h.h.len (zBP _)
theorem SndB.lenT {b:Bk} (h:SndB b):b.T.length≤512:=h.t.len (zBO _)
theorem zs7 (b:Bk):zqK b=true↔SndB b:=by
 unfold zqK
 rw [zqt,zqt]
 simp only [Bool.and_eq_true,decide_eq_true_eq,zBu _ _ _ _ (TOk.nil _ _),List.nil_append,List.all_eq_true,Bool.not_eq_true',List.any_eq_false,Bool.not_eq_true]
 constructor
 ·rintro ⟨⟨_,h1⟩,⟨_,h2⟩,h3⟩
  exact ⟨h1,h2,h3⟩
 ·intro h
  exact ⟨⟨h.lenH,h.h⟩,⟨h.lenT,h.t⟩,h.d⟩
theorem zCj {l:List Plc} {a:Adr} (h:¬ zex (fun x=>yJ x.a a) l 0 ≥ 0):∀ x ∈ l,yJ x.a a=false:=by
 rcases zpn (fun x:Plc=>yJ x.a a) l 0 with ⟨h1,h2⟩ | ⟨j,hj,h1,h2,h3⟩
 ·exact h2
 ·omega
theorem znl (l:List Plc) (a z:Nat):∀ (n i m:Nat),a≤i→i+n≤z→a≤m→m < z→a≤zlo l n i m∧zlo l n i m < z
 | 0,i,m,_,_,h1,h2=>⟨h1,h2⟩
 | n+1,i,m,h0,h,h1,h2=>by
  rw [zlo]
  split
  ·exact znl l a z n (i+1) i (by omega) (by omega) (by omega) (by omega)
  ·exact znl l a z n (i+1) m (by omega) (by omega) h1 h2
theorem zCf {b:Bk} (h:SndB b) (a:Adr) (src:Int):SndB (zkk b a src).1:=by
 unfold zkk
 split
 ·refine ⟨h.h,h.t.key (zJh _) (zq2 _ _ _),fun x hx y hy=>?_⟩
  obtain ⟨z,h1,h2⟩:=zxC (zq2 _ _ _) hy
  rw [← zCa h2 (rfl:zbP x=zbP x)]
  exact h.d x hx z h1
 ·rename_i hT
  split
  ·refine ⟨h.h.key (zIZ _) (zq2 _ _ _),h.t,fun x hx y hy=>?_⟩
   obtain ⟨z,h1,h2⟩:=zxC (zq2 _ _ _) hx
   rw [← zCa (rfl:zbP y=zbP y) h2]
   exact h.d z h1 y hy
  ·rename_i hH
   have nT:=zCj hT
   have nH:=zCj hH
   have dd:∀ (l':List Plc),l'.Sublist b.H→∀ x ∈ zk2 l' ⟨hbk b.salt a src,a,src⟩,∀ y ∈ b.T,yJ y.a x.a=false:=by
    intro l' hl' x hx y hy
    rcases ztp hx with rfl | hx
    ·exact nT y hy
    ·exact h.d x (hl'.subset hx) y hy
   split
   ·rename_i h8
    split
    ·exact h
    ·have hr:=zxp b.H (hbk b.salt a src)
     have hm:=znl b.H (zaf b.H (hbk b.salt a src)) (toN b.H (hbk b.salt a src)) (toN b.H (hbk b.salt a src) - zaf b.H (hbk b.salt a src)) (zaf b.H (hbk b.salt a src)) (zaf b.H (hbk b.salt a src)) (Nat.le_refl _) (by omega) (Nat.le_refl _) (by omega)
     generalize zlo b.H (toN b.H (hbk b.salt a src) - zaf b.H (hbk b.salt a src)) (zaf b.H (hbk b.salt a src)) (zaf b.H (hbk b.salt a src))=m at hm ⊢
     have hml:m < b.H.length:=by omega
     have hc:=zE4 h.h hml
     rw [zCp h.h hm.1 hm.2 hml] at hc
     exact ⟨(h.h.sub (zez _ _)).ins rfl hc (fun x hx=>nH x ((zez _ _).subset hx)) (by simp),h.t,dd _ (zez _ _)⟩
   ·rename_i h8
    rw [zDM h.h] at h8
    exact ⟨h.h.ins rfl (by show zaJ (hbk b.salt a src) b.H≤7; omega) nH (by simp),h.t,dd _ (List.Sublist.refl _)⟩
theorem zGO {l:List Plc} (h:l.Pairwise (fun x y=>yJ x.a y.a=false)) {i:Nat} (hi:i < l.length):∀ x ∈ zfU l i,yJ x.a l[i].a=false:=by
 intro x hx
 have hp:=List.pairwise_iff_getElem.1 h
 unfold zfU at hx
 rcases List.mem_append.1 hx with hx | hx
 ·obtain ⟨j,hj,rfl⟩:=List.mem_take_iff_getElem.1 hx
  exact hp j i (by omega) hi (by omega)
 ·obtain ⟨j,hj,rfl⟩:=List.mem_drop_iff_getElem.1 hx
  rw [zhS]
  exact hp i (i+1+j) hi (by omega) (by omega)
theorem zJ8 (v:Int) (a:Adr) (s:Int):(⟨v,a,s⟩:Plc).b=v:=rfl
theorem zKi (v:Int) (a:Adr) (s:Int):(⟨v,a,s⟩:Plc).a=a:=rfl
theorem zy6 (b:Bk) (e:Plc):(zfi b e).b=tbk b.salt e.a:=by unfold zfi; exact zJ8 _ _ _
theorem zrN (b:Bk) (e:Plc):(zfi b e).a=e.a:=by unfold zfi; exact zKi _ _ _
theorem zJx (s:List Int) (e:Plc):tbf s e=tbk s e.a:=by unfold tbf; rfl
theorem zGS {b:Bk} (h:SndB b) {i:Nat} (hi:i < b.H.length):SndB (zuE b i b.H[i]):=by
 have hH:=h.h.sub (zez b.H i)
 have hn:=zGO h.h.n hi
 have hd:∀ y ∈ b.T,yJ y.a b.H[i].a=false:=fun y hy=>h.d _ (List.getElem_mem hi) y hy
 have dd:∀ (l':List Plc),l'.Sublist b.T→∀ x ∈ zfU b.H i,∀ y ∈ zk2 l' (zfi b b.H[i]),yJ y.a x.a=false:=by
  intro l' hl' x hx y hy
  rcases ztp hy with rfl | hy
  ·rw [zhS,zrN]; exact hn x hx
  ·exact h.d x ((zez _ _).subset hx) y (hl'.subset hy)
 have hp:(zfi b b.H[i]).b=tbk b.salt b.H[i].a:=zy6 _ _
 have hq:(zfi b b.H[i]).b=tbf b.salt (zfi b b.H[i]):=by rw [hp,zJx,zrN]
 unfold zuE
 split
 ·rename_i h8
  have hr:=zxp b.T (tbk b.salt b.H[i].a)
  have hl:zaf b.T (tbk b.salt b.H[i].a) < b.T.length:=by omega
  rw [List.getElem?_eq_getElem hl]
  simp only
  refine zCf ⟨hH,?_,dd _ (zez _ _)⟩ _ _
  have hc:=zE4 h.t hl
  rw [zCp h.t (Nat.le_refl _) (by omega) hl] at hc
  rw [← hp] at hc
  exact (h.t.sub (zez _ _)).ins hq hc (fun x hx=>by rw [zrN]; exact hd x ((zez _ _).subset hx)) (by simp)
 ·rename_i h8
  rw [zDM h.t,← hp] at h8
  exact ⟨hH,h.t.ins hq (by omega) (fun x hx=>by rw [zrN]; exact hd x hx) (by simp),dd _ (List.Sublist.refl _)⟩
def NnB (b:Bk):Prop:=(∀ e ∈ b.H,0≤e.a.h)∧∀ e ∈ b.T,0≤e.a.h
theorem zEQ {l:List Plc} (h:∀ e ∈ l,0≤e.a.h) (i:Nat) (t:Int):∀ e ∈ zuK l i t,0≤e.a.h:=by
 intro e he
 obtain ⟨y,h1,h2⟩:=zxC (zq2 _ _ _) he
 simp only [zbP,Prod.mk.injEq] at h2
 rw [← h2.2.1]; exact h y h1
theorem zzU {l:List Plc} (h:∀ e ∈ l,0≤e.a.h) {p:Plc} (hp:0≤p.a.h):∀ e ∈ zk2 l p,0≤e.a.h:=by
 intro e he
 rcases ztp he with rfl | he
 ·exact hp
 ·exact h e he
theorem zAF {l:List Plc} (h:∀ e ∈ l,0≤e.a.h) (i:Nat):∀ e ∈ zfU l i,0≤e.a.h:=fun e he=>h e ((zez _ _).subset he)
theorem zDn {b:Bk} (h:NnB b) {a:Adr} (ha:0≤a.h) (src:Int):NnB (zkk b a src).1:=by
 unfold zkk
 split
 ·exact ⟨h.1,zEQ h.2 _ _⟩
 ·split
  ·exact ⟨zEQ h.1 _ _,h.2⟩
  ·split
   ·split
    ·exact h
    ·exact ⟨zzU (zAF h.1 _) ha,h.2⟩
   ·exact ⟨zzU h.1 ha,h.2⟩
theorem zH5 {b:Bk} (h:NnB b) {i:Nat} (hi:i < b.H.length):NnB (zuE b i b.H[i]):=by
 have hp:0≤(zfi b b.H[i]).a.h:=by rw [zrN]; exact h.1 _ (List.getElem_mem hi)
 unfold zuE
 split
 ·split
  ·rename_i o ho
   exact zDn ⟨zAF h.1 _,zzU (zAF h.2 _) hp⟩ (h.2 o (List.mem_of_getElem? ho)) _
  ·exact h
 ·exact ⟨zAF h.1 _,zzU h.2 hp⟩
end
section
set_option linter.unusedVariables false
set_option linter.unusedSimpArgs false
set_option maxRecDepth 100000
variable {β:Type}
def zbH (l:List Plc):List V:=(xR l).flatten
theorem zGX (l:List Plc):∀ e ∈ xR l,e.length=5:=by
 intro e he
 obtain ⟨x,_,rfl⟩:=List.mem_map.1 he
 rfl
theorem zj5 (l:List Plc):(zbH l).length=l.length * 5:=by
 unfold zbH; rw [za1 (zGX l),xZ]
theorem zBZ (l m:List Plc):zbH (l++m)=zbH l++zbH m:=by simp [zbH,xR]
theorem zyI {l:List Plc} {i:Nat} (hi:i < l.length):zbH l=zbH (l.take i)++(l[i].v++zbH (l.drop (i+1))):=by
 have e:l=l.take i++(l[i]::l.drop (i+1)):=by rw [← List.drop_eq_getElem_cons hi,List.take_append_drop]
 refine (congrArg zbH e).trans ?_
 rw [zBZ]
 rfl
theorem zu0 {l:List Plc} {i j:Nat} (hi:i < l.length) (hj:j≤5):(zbH l).drop (i * 5+j)=l[i].v.drop j++zbH (l.drop (i+1)):=by
 rw [zyI hi]
 have e:(zbH (l.take i)).length=i * 5:=by rw [zj5,List.length_take]; congr 1; omega
 rw [List.drop_append,e,List.drop_of_length_le (by omega),List.nil_append,show i * 5+j - i * 5=j by omega,List.drop_append_of_le_length (by show j≤5; exact hj)]
theorem zG5 {l:List Plc} {i j:Nat} (hi:i < l.length) (hj:j < 5):(zbH l)[i * 5+j]?=l[i].v[j]?:=by
 have:=zu0 hi (Nat.le_of_lt hj)
 rw [← List.head?_drop,this,← List.head?_drop]
 rw [List.head?_append]
 cases h:(l[i].v.drop j).head? with
 | some x=>rfl
 | none =>
  rw [List.head?_drop,List.getElem?_eq_none_iff] at h
  have:l[i].v.length=5:=rfl
  omega
theorem zDI {l:List Plc} {i:Nat} (hi:i < l.length):List.take 3 (List.drop (i * 5+1) (zbH l))=l[i].a.v:=by
 rw [zu0 hi (by omega)]; rfl
theorem zH1 {l:List Plc} {i:Nat} (hi:i < l.length):List.take 5 (List.drop (i * 5) (zbH l))=l[i].v:=by
 rw [show i * 5=i * 5+0 from rfl,zu0 hi (by omega)]; rfl
theorem zHc (A B x:List V) (j:Nat):xg (A++B) (A.length+j) x=A++xg B j x:=by
 unfold xg
 rw [List.take_length_add_append,Nat.add_assoc,List.drop_length_add_append]
 simp
theorem zCi {l:List Plc} {i:Nat} (hi:i < l.length) (t:Int):xg (zbH l) (i * 5+3) [V.sc (.int .u32 (zFA l[i].a.t t))]=zbH (zuK l i t):=by
 have e:(zbH (l.take i)).length=i * 5:=by rw [zj5,List.length_take]; congr 1; omega
 have eb:zuK l i t=l.take i++(zIf t l[i]::l.drop (i+1)):=by
  unfold zuK
  rw [List.modify_eq_take_cons_drop hi]
 rw [eb,zBZ,zyI hi,← e,zHc]
 rfl
theorem zej (l:List Plc):yk 5 l.length (zbH l)=xR l:=by
 have:=zDK (zGX l) (w:=l.length) (by rw [xZ]; exact Nat.le_refl _)
 unfold zbH
 rw [this,List.take_of_length_le (by rw [xZ]; exact Nat.le_refl _)]
theorem zEi (l:List Plc) (i:Nat) (t:Int):(zuK l i t).length=l.length:=by unfold zuK; simp
theorem zEf {n:Nat} {l:List Plc} (h:n=l.length):yk 5 n (zbH l)=xR l:=by subst h; exact zej l
theorem zs6 (l:List Plc):(zbH l).isEmpty=l.isEmpty:=by
 cases l <;> rfl
theorem zHV (L:Nat) (l:List Plc) (hl:l.length≤1000000) (v:Int) (kx:List (List V)→Int→Int→Option β):∀ (m i:Nat),i≤l.length→l.length - i < m →
  zeg L kx m (xR l) v (i:Int)=kx (xR l) v ((i+((l.drop i).takeWhile (fun x=>decide (x.b < v))).length:Nat):Int):=by
 intro m
 induction m with
 | zero=>intro i h1 h2; omega
 | succ m IH =>
  intro i h1 h2
  unfold zeg zjS
  rw [xZ]
  by_cases h:i < l.length
  ·rw [zaQ (by omega),zaZ (zct h),xI (n:=l[i].b) rfl,zar,List.drop_eq_getElem_cons h,List.takeWhile_cons]
   by_cases hb:l[i].b < v
   ·rw [if_pos hb,if_pos (decide_eq_true hb),yx,zag (by omega),List.length_cons]
    refine (IH (i+1) (by omega) (by omega)).trans ?_
    congr 2; omega
   ·rw [if_neg hb,if_neg (by simpa using hb)]; rfl
  ·rw [za6 (by omega),List.drop_of_length_le (by omega)]; rfl
theorem zJY (L:Nat) (l:List Plc) (hl:l.length≤1000000) (v f:Int) (kx:Int→Int→Option β):∀ (m i:Nat),i≤l.length→l.length - i < m →
  zdr L kx m (xR l) v f (i:Int)=kx f ((i+((l.drop i).takeWhile (fun x=>x.b == v)).length:Nat):Int):=by
 intro m
 induction m with
 | zero=>intro i h1 h2; omega
 | succ m IH =>
  intro i h1 h2
  unfold zdr zhG
  rw [xZ]
  by_cases h:i < l.length
  ·rw [zaQ (by omega),zaZ (zct h),xI (n:=l[i].b) rfl,zdT,List.drop_eq_getElem_cons h,List.takeWhile_cons]
   by_cases hb:l[i].b=v
   ·rw [if_pos hb,if_pos (beq_iff_eq.2 hb),yx,zag (by omega),List.length_cons]
    refine (IH (i+1) (by omega) (by omega)).trans ?_
    congr 2; omega
   ·rw [if_neg hb,if_neg (by simpa using hb)]; rfl
  ·rw [za6 (by omega),List.drop_of_length_le (by omega)]; rfl
theorem zpA (L:Nat) (l:List Plc) (hl:l.length≤1000000) (hL:l.length < L) (v:Int) (k:Int→Int→Option β):xe β L (xR l) v k=k ((zaf l v:Nat):Int) ((toN l v:Nat):Int):=by
 have hf:=zxp l v
 unfold xe zkv zot
 rw [show ((0:Int))=((0:Nat):Int) from rfl]
 refine (zHV L l hl v _ L 0 (by omega) (by omega)).trans ?_
 rw [List.drop_zero,Nat.zero_add]
 refine (zJY L l hl v _ _ L (zaf l v) (by omega) (by omega)).trans ?_
 rfl
theorem zzi {n m:Nat} (h:n≤1000000) (hm:m≤1000000):(n+m) * 24≤yr∧n+m≤yr:=by
 simp only [yr]; omega
theorem zsB (l:List Plc) (i:Nat):(xR l).take i=xR (l.take i):=by simp [xR,List.map_take]
theorem zCd (l:List Plc) (i:Nat):(xR l).drop i=xR (l.drop i):=by simp [xR,List.map_drop]
theorem zJs (p:Plc):yk 5 1 (xg [(V.sc (.int .i64 (0:Int))),(V.sc (.int .u32 (0:Int))),(V.sc (.int .u16 (0:Int))),(V.sc (.int .u32 (0:Int))),(V.sc (.int .u32 (0:Int)))] 0 p.v)=xR [p]:=by
 rw [zc3 (by rfl)]; rfl
theorem zB8 (l:List Plc) (i:Nat):List.take (l.length - i) (List.drop i l)=List.drop i l:=List.take_of_length_le (by simp)
theorem zmf (L:Nat) (l:List Plc) (hl:l.length≤900000) (hL:l.length < L) (p:Plc) (k:List (List V)→Option β):ze β L (xR l) p.v k=k (xR (zk2 l p)):=by
 have hf:=zxp l p.b
 have e1:List.take 5 p.v=p.v:=rfl
 unfold ze zoH
 rw [xI (n:=p.b) rfl,zpA L l (by omega) hL,xZ,xc (by omega),Nat.sub_zero,Int.toNat_natCast,List.drop_zero,zsB,xZ,xc (zzi (by simp) (by simp; omega)),yx,List.nil_append,xc (by show 0+5≤5; omega),e1,xc ⟨rfl,by omega⟩,zJs,xZ,xZ,xc (zzi (by simp; omega) (by simp)),yx,zzd,xc (by omega),zCd,zsB,xZ,xZ,xc (zzi (by simp; omega) (by simp; omega)),yx,zzd,zB8]
 rfl
theorem zwj (L:Nat) (l:List Plc) (hl:l.length≤900000) (i:Nat) (hi:i < l.length) (k:List (List V)→Option β):zf β L (xR l) (i:Int) k=k (xR (zfU l i)):=by
 unfold zf zow
 rw [xZ,xc (by omega),Nat.sub_zero,Int.toNat_natCast,List.drop_zero,zsB,xZ,xc (zzi (by simp) (by simp; omega)),yx,List.nil_append,yx,zag (by omega),xc (by omega),Int.toNat_natCast,zCd,zsB,xZ,xZ,xc (zzi (by simp; omega) (by simp; omega)),yx,zzd,zB8]
 rfl
theorem zFV (L:Nat) (ps:List Plc) (hp:ps.length≤1000000) (a:Adr) (kr:Int→List V→Option β) (kx:List V→Option β) (k:Int→List V→Option β) (hr:∀ i b,kr i b=k i b) (hx:∀ b,kx b=k (-1) b):∀ (m i:Nat),i≤ps.length→ps.length - i < m →
  zed yg L kr kx m ps.length (i:Int) (zbH ps) a.v=k (zex (fun e=>yJ e.a a) (ps.drop i) i) (zbH ps):=by
 intro m
 induction m with
 | zero=>intro i h1 h2; omega
 | succ m IH =>
  intro i h1 h2
  unfold zed zjt
  by_cases h:i < ps.length
  ·have e1:0+Int.toNat (i:Int) * 5+1=i * 5+1:=by rw [Int.toNat_natCast]; omega
   rw [zaQ (by omega),xc (by omega),e1,xc (by rw [zj5]; omega),xc (by show 0+3≤3; omega),zDI h,zlt,zER,List.drop_eq_getElem_cons h,zex,yx,zag (by omega)]
   have ih:=IH (i+1) (by omega) (by omega)
   cases yJ ps[i].a a with
   | true=>exact hr _ _
   | false=>exact ih
  ·rw [za6 (by omega),List.drop_of_length_le (by omega),hx]; rfl
theorem zEm (L:Nat) (ps:List Plc) (hp:ps.length≤1000000) (hL:ps.length < L) (a:Adr) (k:Int→List V→Option β):yh β L ps.length a.v (zbH ps) k=k (zex (fun e=>yJ e.a a) ps 0) (zbH ps):=by
 unfold yh zku zoo
 rw [show ((0:Int))=((0:Nat):Int) from rfl]
 refine (zFV L ps hp a _ _ k (fun _ _=>rfl) (fun _=>rfl) L 0 (by omega) (by omega)).trans ?_
 rfl
theorem xY (b:Bk) (j:Nat) (h:j < 32) (k:Int→Option β):cI .u8 b.v j k=k (b.salt.getD j 0):=by
 refine xI ?_ k
 have hs:=b.hs
 rw [Bk.v,List.getElem?_append_left (by rw [zcl]; omega),row,List.getElem?_map,List.getD_eq_getElem?_getD,List.getElem?_eq_getElem (by omega)]
 rfl
theorem zHF:∀ (s:List Int),s.length=32→row .u8 s=[V.sc (.int .u8 (s.getD 0 0)),V.sc (.int .u8 (s.getD 1 0)),V.sc (.int .u8 (s.getD 2 0)),V.sc (.int .u8 (s.getD 3 0)),V.sc (.int .u8 (s.getD 4 0)),V.sc (.int .u8 (s.getD 5 0)),V.sc (.int .u8 (s.getD 6 0)),V.sc (.int .u8 (s.getD 7 0)),V.sc (.int .u8 (s.getD 8 0)),V.sc (.int .u8 (s.getD 9 0)),V.sc (.int .u8 (s.getD 10 0)),V.sc (.int .u8 (s.getD 11 0)),V.sc (.int .u8 (s.getD 12 0)),V.sc (.int .u8 (s.getD 13 0)),V.sc (.int .u8 (s.getD 14 0)),V.sc (.int .u8 (s.getD 15 0)),V.sc (.int .u8 (s.getD 16 0)),V.sc (.int .u8 (s.getD 17 0)),V.sc (.int .u8 (s.getD 18 0)),V.sc (.int .u8 (s.getD 19 0)),V.sc (.int .u8 (s.getD 20 0)),V.sc (.int .u8 (s.getD 21 0)),V.sc (.int .u8 (s.getD 22 0)),V.sc (.int .u8 (s.getD 23 0)),V.sc (.int .u8 (s.getD 24 0)),V.sc (.int .u8 (s.getD 25 0)),V.sc (.int .u8 (s.getD 26 0)),V.sc (.int .u8 (s.getD 27 0)),V.sc (.int .u8 (s.getD 28 0)),V.sc (.int .u8 (s.getD 29 0)),V.sc (.int .u8 (s.getD 30 0)),V.sc (.int .u8 (s.getD 31 0))]
 | [x0,x1,x2,x3,x4,x5,x6,x7,x8,x9,x10,x11,x12,x13,x14,x15,x16,x17,x18,x19,x20,x21,x22,x23,x24,x25,x26,x27,x28,x29,x30,x31],_=>rfl
theorem Bk.cells (b:Bk):[V.sc (.int .u8 (b.salt.getD 0 0)),V.sc (.int .u8 (b.salt.getD 1 0)),V.sc (.int .u8 (b.salt.getD 2 0)),V.sc (.int .u8 (b.salt.getD 3 0)),V.sc (.int .u8 (b.salt.getD 4 0)),V.sc (.int .u8 (b.salt.getD 5 0)),V.sc (.int .u8 (b.salt.getD 6 0)),V.sc (.int .u8 (b.salt.getD 7 0)),V.sc (.int .u8 (b.salt.getD 8 0)),V.sc (.int .u8 (b.salt.getD 9 0)),V.sc (.int .u8 (b.salt.getD 10 0)),V.sc (.int .u8 (b.salt.getD 11 0)),V.sc (.int .u8 (b.salt.getD 12 0)),V.sc (.int .u8 (b.salt.getD 13 0)),V.sc (.int .u8 (b.salt.getD 14 0)),V.sc (.int .u8 (b.salt.getD 15 0)),V.sc (.int .u8 (b.salt.getD 16 0)),V.sc (.int .u8 (b.salt.getD 17 0)),V.sc (.int .u8 (b.salt.getD 18 0)),V.sc (.int .u8 (b.salt.getD 19 0)),V.sc (.int .u8 (b.salt.getD 20 0)),V.sc (.int .u8 (b.salt.getD 21 0)),V.sc (.int .u8 (b.salt.getD 22 0)),V.sc (.int .u8 (b.salt.getD 23 0)),V.sc (.int .u8 (b.salt.getD 24 0)),V.sc (.int .u8 (b.salt.getD 25 0)),V.sc (.int .u8 (b.salt.getD 26 0)),V.sc (.int .u8 (b.salt.getD 27 0)),V.sc (.int .u8 (b.salt.getD 28 0)),V.sc (.int .u8 (b.salt.getD 29 0)),V.sc (.int .u8 (b.salt.getD 30 0)),V.sc (.int .u8 (b.salt.getD 31 0))]=row .u8 b.salt:=(zHF b.salt b.hs).symm
theorem Bk.mk_v (b:Bk) (x y:List (List V)):[V.sc (.int .u8 (b.salt.getD 0 0)),V.sc (.int .u8 (b.salt.getD 1 0)),V.sc (.int .u8 (b.salt.getD 2 0)),V.sc (.int .u8 (b.salt.getD 3 0)),V.sc (.int .u8 (b.salt.getD 4 0)),V.sc (.int .u8 (b.salt.getD 5 0)),V.sc (.int .u8 (b.salt.getD 6 0)),V.sc (.int .u8 (b.salt.getD 7 0)),V.sc (.int .u8 (b.salt.getD 8 0)),V.sc (.int .u8 (b.salt.getD 9 0)),V.sc (.int .u8 (b.salt.getD 10 0)),V.sc (.int .u8 (b.salt.getD 11 0)),V.sc (.int .u8 (b.salt.getD 12 0)),V.sc (.int .u8 (b.salt.getD 13 0)),V.sc (.int .u8 (b.salt.getD 14 0)),V.sc (.int .u8 (b.salt.getD 15 0)),V.sc (.int .u8 (b.salt.getD 16 0)),V.sc (.int .u8 (b.salt.getD 17 0)),V.sc (.int .u8 (b.salt.getD 18 0)),V.sc (.int .u8 (b.salt.getD 19 0)),V.sc (.int .u8 (b.salt.getD 20 0)),V.sc (.int .u8 (b.salt.getD 21 0)),V.sc (.int .u8 (b.salt.getD 22 0)),V.sc (.int .u8 (b.salt.getD 23 0)),V.sc (.int .u8 (b.salt.getD 24 0)),V.sc (.int .u8 (b.salt.getD 25 0)),V.sc (.int .u8 (b.salt.getD 26 0)),V.sc (.int .u8 (b.salt.getD 27 0)),V.sc (.int .u8 (b.salt.getD 28 0)),V.sc (.int .u8 (b.salt.getD 29 0)),V.sc (.int .u8 (b.salt.getD 30 0)),V.sc (.int .u8 (b.salt.getD 31 0)),(V.sl 5 x),(V.sl 5 y)]=row .u8 b.salt++[.sl 5 x,.sl 5 y]:=by
 rw [← b.cells]; rfl
theorem zB6 (L:Nat) (b:Bk) (hH:b.H.length≤1000000) (hT:b.T.length≤1000000) (k:zkQ β):zg β L b.v k=k (b.salt.getD 0 0) (b.salt.getD 1 0) (b.salt.getD 2 0) (b.salt.getD 3 0) (b.salt.getD 4 0) (b.salt.getD 5 0) (b.salt.getD 6 0) (b.salt.getD 7 0) (b.salt.getD 8 0) (b.salt.getD 9 0) (b.salt.getD 10 0) (b.salt.getD 11 0) (b.salt.getD 12 0) (b.salt.getD 13 0) (b.salt.getD 14 0) (b.salt.getD 15 0) (b.salt.getD 16 0) (b.salt.getD 17 0) (b.salt.getD 18 0) (b.salt.getD 19 0) (b.salt.getD 20 0) (b.salt.getD 21 0) (b.salt.getD 22 0) (b.salt.getD 23 0) (b.salt.getD 24 0) (b.salt.getD 25 0) (b.salt.getD 26 0) (b.salt.getD 27 0) (b.salt.getD 28 0) (b.salt.getD 29 0) (b.salt.getD 30 0) (b.salt.getD 31 0) b.H.length b.T.length (zbH b.H) (zbH b.T):=by
 unfold zg zom
 rw [xc b.len,xY b 0 (by omega),xY b 1 (by omega),xY b 2 (by omega),xY b 3 (by omega),xY b 4 (by omega),xY b 5 (by omega),xY b 6 (by omega),xY b 7 (by omega),xY b 8 (by omega),xY b 9 (by omega),xY b 10 (by omega),xY b 11 (by omega),xY b 12 (by omega),xY b 13 (by omega),xY b 14 (by omega),xY b 15 (by omega),xY b 16 (by omega),xY b 17 (by omega),xY b 18 (by omega),xY b 19 (by omega),xY b 20 (by omega),xY b 21 (by omega),xY b 22 (by omega),xY b 23 (by omega),xY b 24 (by omega),xY b 25 (by omega),xY b 26 (by omega),xY b 27 (by omega),xY b 28 (by omega),xY b 29 (by omega),xY b 30 (by omega),xY b 31 (by omega)]
 have g1:∀ k:List (List V)→Option β,cL 5 b.v 32 k=k (xR b.H):=zxA b.g32
 have g2:∀ k:List (List V)→Option β,cL 5 b.v 33 k=k (xR b.T):=zxA b.g33
 rw [g1,g2,xZ,xZ,xc (zzi (by simp) hH),xc (zzi (by simp) hT)]
 rfl
end
section
set_option linter.unusedVariables false
set_option linter.unusedSimpArgs false
set_option maxRecDepth 100000
variable {β:Type}
theorem zyT {l:List Plc} {a:Adr} (h:zex (fun x=>yJ x.a a) l 0 ≥ 0):∃ j:Nat,j < l.length∧zex (fun x=>yJ x.a a) l 0=(j:Int):=by
 rcases zpn (fun x:Plc=>yJ x.a a) l 0 with ⟨h1,h2⟩ | ⟨j,hj,h1,h2,h3⟩
 ·omega
 ·exact ⟨j,hj,by rw [h1,Nat.zero_add]⟩
theorem at3 (j:Nat):0+Int.toNat (j:Int) * 5+1+2=j * 5+3:=by rw [Int.toNat_natCast]; omega
theorem cT {l:List Plc} {j:Nat} (h:j < l.length) (k:Int→Option β):cI .u32 (zbH l) (j * 5+3) k=k l[j].a.t:=by
 refine xI ?_ k
 rw [zG5 h (by omega)]; rfl
theorem zwA {l:List Plc} {j:Nat} (h:j < l.length):zwh l j=l[j].a.t:=by
 unfold zwh; rw [List.getElem?_eq_getElem h]
theorem zKt (v:Int) (a:Adr) (s:Int):xg [(V.sc (.int .i64 (0:Int))),(V.sc (.int .u32 (0:Int))),(V.sc (.int .u16 (0:Int))),(V.sc (.int .u32 (0:Int))),(V.sc (.int .u32 (0:Int)))] 0 (xg (xg [(V.sc (.int .i64 v)),(V.sc (.int .u32 (0:Int))),(V.sc (.int .u16 (0:Int))),(V.sc (.int .u32 (0:Int))),(V.sc (.int .u32 (0:Int)))] 1 a.v) 4 [(V.sc (.int .u32 s))])=(⟨v,a,s⟩:Plc).v:=rfl
theorem zt6 (p:Plc):List.take 5 p.v=p.v:=rfl
theorem zFU (L:Nat) (b:Bk) (hH:b.H.length≤1000000) (z:Nat) (hz:z≤b.H.length) (b4 p:List V) (tl:Nat) (tf:List V) (kx:zlU β):∀ (m i c:Nat),i≤z→z - i < m→c < b.H.length →
  zbN zg yh zb xe ze zf L kx m (z:Int) (c:Int) (i:Int) b4 0 0 0 0 0 0 0 0 0 0 0 0 0 0 0 0 0 0 0 0 0 0 0 0 0 0 0 0 0 0 0 0 [] [] (b.salt.getD 0 0) (b.salt.getD 1 0) (b.salt.getD 2 0) (b.salt.getD 3 0) (b.salt.getD 4 0) (b.salt.getD 5 0) (b.salt.getD 6 0) (b.salt.getD 7 0) (b.salt.getD 8 0) (b.salt.getD 9 0) (b.salt.getD 10 0) (b.salt.getD 11 0) (b.salt.getD 12 0) (b.salt.getD 13 0) (b.salt.getD 14 0) (b.salt.getD 15 0) (b.salt.getD 16 0) (b.salt.getD 17 0) (b.salt.getD 18 0) (b.salt.getD 19 0) (b.salt.getD 20 0) (b.salt.getD 21 0) (b.salt.getD 22 0) (b.salt.getD 23 0) (b.salt.getD 24 0) (b.salt.getD 25 0) (b.salt.getD 26 0) (b.salt.getD 27 0) (b.salt.getD 28 0) (b.salt.getD 29 0) (b.salt.getD 30 0) (b.salt.getD 31 0) b.H.length tl p (zbH b.H) tf
   = kx ((zlo b.H (z - i) i c:Nat):Int) b4 0 0 0 0 0 0 0 0 0 0 0 0 0 0 0 0 0 0 0 0 0 0 0 0 0 0 0 0 0 0 0 0 [] [] (b.salt.getD 0 0) (b.salt.getD 1 0) (b.salt.getD 2 0) (b.salt.getD 3 0) (b.salt.getD 4 0) (b.salt.getD 5 0) (b.salt.getD 6 0) (b.salt.getD 7 0) (b.salt.getD 8 0) (b.salt.getD 9 0) (b.salt.getD 10 0) (b.salt.getD 11 0) (b.salt.getD 12 0) (b.salt.getD 13 0) (b.salt.getD 14 0) (b.salt.getD 15 0) (b.salt.getD 16 0) (b.salt.getD 17 0) (b.salt.getD 18 0) (b.salt.getD 19 0) (b.salt.getD 20 0) (b.salt.getD 21 0) (b.salt.getD 22 0) (b.salt.getD 23 0) (b.salt.getD 24 0) (b.salt.getD 25 0) (b.salt.getD 26 0) (b.salt.getD 27 0) (b.salt.getD 28 0) (b.salt.getD 29 0) (b.salt.getD 30 0) (b.salt.getD 31 0) b.H.length tl p (zbH b.H) tf:=by
 intro m
 induction m with
 | zero=>intro i c h1 h2 h3; omega
 | succ m IH =>
  intro i c h1 h2 h3
  unfold zbN zeb
  by_cases h:i < z
  ·have hi:i < b.H.length:=by omega
   rw [zaQ (by omega),xc (by omega),at3,cT hi,xc (by omega),at3,cT h3,zar,show z - i=(z - (i+1))+1 by omega,zlo,zwA hi,zwA h3]
   by_cases ht:b.H[i].a.t < b.H[c].a.t
   ·rw [if_pos ht,if_pos ht,yx,zag (by omega)]
    exact IH (i+1) i (by omega) (by omega) hi
   ·rw [if_neg ht,if_neg ht,yx,zag (by omega)]
    exact IH (i+1) c (by omega) (by omega) h3
  ·rw [za6 (by omega),show z - i=0 by omega]; rfl
theorem Bk.v_mk (b:Bk) (H T:List Plc):row .u8 b.salt++[V.sl 5 (xR H),V.sl 5 (xR T)]=(⟨b.salt,H,T,b.hs⟩:Bk).v:=rfl
theorem zFb (L:Nat) (hL:200000 < L) (b:Bk) (hH:b.H.length≤100000) (hT:b.T.length≤100000) (a:Adr) (src:Int) (k:List V→Bool→Option β):xA β (L+100) b.v a.v src k=k (zkk b a src).1.v (zkk b a src).2:=by
 unfold xA zm3 zrJ
 rw [xc (by rw [b.len]; omega),b.take,b.dem,zB6 _ b (by omega) (by omega),xc (by show 0+3≤3; omega),zlt,zEm _ b.T (by omega) (by omega),xc rfl,zar]
 unfold zkk
 by_cases h:zex (fun x=>yJ x.a a) b.T 0 ≥ 0
 ·obtain ⟨j,hj,e⟩:=zyT h
  rw [if_pos h,if_pos h,e,xc (by omega),at3,cT hj,xI (n:=a.t) rfl,yx,xc (by omega),xc ⟨rfl,by rw [zj5]; omega⟩,yx,zCi hj,zej,zEf (zEi _ _ _).symm,b.mk_v,b.v_mk,Int.toNat_natCast]
 ·rw [if_neg h,if_neg h,xc (by show 0+3≤3; omega),zEm _ b.H (by omega) (by omega),xc rfl,zar]
  by_cases h':zex (fun x=>yJ x.a a) b.H 0 ≥ 0
  ·obtain ⟨j,hj,e⟩:=zyT h'
   rw [if_pos h',if_pos h',e,xc (by omega),at3,cT hj,xI (n:=a.t) rfl,yx,xc (by omega),xc ⟨rfl,by rw [zj5]; omega⟩,yx,zCi hj,zej,zEf (zEi _ _ _).symm,b.mk_v,b.v_mk,Int.toNat_natCast]
  ·rw [if_neg h',if_neg h',xc (by rw [b.len]; omega),xc (by show 0+3≤3; omega),b.t32,zIs L b.salt b.hs]
   generalize hbk b.salt a src=v
   have hr:=zxp b.H v
   rw [xc (by show 0+3≤3; omega),xc ⟨rfl,by omega⟩,xc (by show 1=1∧4+1≤5; omega),xc ⟨rfl,by omega⟩,zKt,yx,xI (n:=v) rfl,zs6]
   cases he:b.H.isEmpty with
   | true =>
    have hn:b.H=[]:=by simpa using he
    have hlen:b.H.length=0:=by rw [hn]; rfl
    rw [zfs,zej,zpA _ b.H (by omega) (by omega),yx,y7 (by omega) (by omega),zar,if_neg (by omega),if_neg (by omega),xc (by show 0+5≤5; omega),zfs,zt6,zmf _ b.H (by omega) (by omega),zej,b.mk_v,b.v_mk]
   | false =>
    rw [zb1,zej,zpA _ b.H (by omega) (by omega),yx,y7 (by omega) (by omega),zar]
    by_cases h8:toN b.H v - zaf b.H v ≥ 8
    ·rw [if_pos (by omega),if_pos h8]
     refine (zFU (L+100) b (by omega) (toN b.H v) hr.2 a.v _ _ _ _ (L+100) (zaf b.H v) (zaf b.H v) hr.1 (by omega) (by omega)).trans ?_
     have hm:=znl b.H (zaf b.H v) (toN b.H v) (toN b.H v - zaf b.H v) (zaf b.H v) (zaf b.H v) (Nat.le_refl _) (by omega) (Nat.le_refl _) (by omega)
     generalize zlo b.H (toN b.H v - zaf b.H v) (zaf b.H v) (zaf b.H v)=m at hm ⊢
     have hml:m < b.H.length:=by omega
     unfold zde
     rw [xc (by omega),at3,cT hml,xI (n:=a.t) rfl,zar,zwA hml]
     by_cases ht:b.H[m].a.t ≥ a.t
     ·rw [if_pos ht,if_pos ht,zej,zej,b.mk_v,b.v_mk]
     ·have hlr:(zfU b.H m).length≤b.H.length:=(zez _ _).length_le
      rw [if_neg ht,if_neg ht,zej,zwj _ b.H (by omega) m hml,xc (by show 0+5≤5; omega),zt6,zmf _ (zfU b.H m) (by omega) (by omega),zej,b.mk_v,b.v_mk]
    ·rw [if_neg (by omega),if_neg h8,xc (by show 0+5≤5; omega),zt6,zmf _ b.H (by omega) (by omega),zej,b.mk_v,b.v_mk]
end
section
set_option linter.unusedVariables false
set_option linter.unusedSimpArgs false
set_option maxRecDepth 100000
variable {β:Type}
def bk0:Bk:=⟨List.replicate 32 0,[],[],by rfl⟩
theorem zHs (b:Bk) (k:List V→Int→Option β):chk (List.length b.v=34) (cI .u8 b.v 0 fun v0=>cI .u8 b.v 1 fun v1=>cI .u8 b.v 2 fun v2=>cI .u8 b.v 3 fun v3=>cI .u8 b.v 4 fun v4=>cI .u8 b.v 5 fun v5=>cI .u8 b.v 6 fun v6=>cI .u8 b.v 7 fun v7=>cI .u8 b.v 8 fun v8=>cI .u8 b.v 9 fun v9=>cI .u8 b.v 10 fun v10=>cI .u8 b.v 11 fun v11=>cI .u8 b.v 12 fun v12=>cI .u8 b.v 13 fun v13=>cI .u8 b.v 14 fun v14=>cI .u8 b.v 15 fun v15=>cI .u8 b.v 16 fun v16=>cI .u8 b.v 17 fun v17=>cI .u8 b.v 18 fun v18=>cI .u8 b.v 19 fun v19=>cI .u8 b.v 20 fun v20=>cI .u8 b.v 21 fun v21=>cI .u8 b.v 22 fun v22=>cI .u8 b.v 23 fun v23=>cI .u8 b.v 24 fun v24=>cI .u8 b.v 25 fun v25=>cI .u8 b.v 26 fun v26=>cI .u8 b.v 27 fun v27=>cI .u8 b.v 28 fun v28=>cI .u8 b.v 29 fun v29=>cI .u8 b.v 30 fun v30=>cI .u8 b.v 31 fun v31=>cL 5 b.v 32 fun v32=>cL 5 b.v 33 fun v33=>k [V.sc (.int .u8 v0),V.sc (.int .u8 v1),V.sc (.int .u8 v2),V.sc (.int .u8 v3),V.sc (.int .u8 v4),V.sc (.int .u8 v5),V.sc (.int .u8 v6),V.sc (.int .u8 v7),V.sc (.int .u8 v8),V.sc (.int .u8 v9),V.sc (.int .u8 v10),V.sc (.int .u8 v11),V.sc (.int .u8 v12),V.sc (.int .u8 v13),V.sc (.int .u8 v14),V.sc (.int .u8 v15),V.sc (.int .u8 v16),V.sc (.int .u8 v17),V.sc (.int .u8 v18),V.sc (.int .u8 v19),V.sc (.int .u8 v20),V.sc (.int .u8 v21),V.sc (.int .u8 v22),V.sc (.int .u8 v23),V.sc (.int .u8 v24),V.sc (.int .u8 v25),V.sc (.int .u8 v26),V.sc (.int .u8 v27),V.sc (.int .u8 v28),V.sc (.int .u8 v29),V.sc (.int .u8 v30),V.sc (.int .u8 v31),(V.sl 5 v32),(V.sl 5 v33)] (0:Int))=k b.v 0:=by
 rw [xc b.len,xY b 0 (by omega),xY b 1 (by omega),xY b 2 (by omega),xY b 3 (by omega),xY b 4 (by omega),xY b 5 (by omega),xY b 6 (by omega),xY b 7 (by omega),xY b 8 (by omega),xY b 9 (by omega),xY b 10 (by omega),xY b 11 (by omega),xY b 12 (by omega),xY b 13 (by omega),xY b 14 (by omega),xY b 15 (by omega),xY b 16 (by omega),xY b 17 (by omega),xY b 18 (by omega),xY b 19 (by omega),xY b 20 (by omega),xY b 21 (by omega),xY b 22 (by omega),xY b 23 (by omega),xY b 24 (by omega),xY b 25 (by omega),xY b 26 (by omega),xY b 27 (by omega),xY b 28 (by omega),xY b 29 (by omega),xY b 30 (by omega),xY b 31 (by omega)]
 have g1:∀ k:List (List V)→Option β,cL 5 b.v 32 k=k (xR b.H):=zxA b.g32
 have g2:∀ k:List (List V)→Option β,cL 5 b.v 33 k=k (xR b.T):=zxA b.g33
 rw [g1,g2,b.mk_v,b.v_mk]
theorem zKa (e:Plc) (v:Int):xg e.v 0 [V.sc (.int .i64 v)]=(⟨v,e.a,e.s⟩:Plc).v:=rfl
theorem zKq (b:Bk) (e:Plc):xg e.v 0 [V.sc (.int .i64 (tbk b.salt e.a))]=(zfi b e).v:=by
 unfold zfi
 exact zKa e _
theorem z3 (a:Adr):xg [(V.sc (.int .u32 (0:Int))),(V.sc (.int .u16 (0:Int))),(V.sc (.int .u32 (0:Int)))] 0 a.v=a.v:=zc3 rfl
theorem z5 (p:Plc):xg [(V.sc (.int .i64 (0:Int))),(V.sc (.int .u32 (0:Int))),(V.sc (.int .u16 (0:Int))),(V.sc (.int .u32 (0:Int))),(V.sc (.int .u32 (0:Int)))] 0 p.v=p.v:=zc3 rfl
theorem at0 (j:Nat):0+Int.toNat (j:Int) * 5=j * 5:=by rw [Int.toNat_natCast]; omega
theorem p13 (p:Plc):List.take 3 (List.drop 1 p.v)=p.a.v:=rfl
theorem cB0 (p:Plc) (k:Int→Option β):cI .i64 p.v 0 k=k p.b:=xI rfl k
theorem zJk (L:Nat) (hL:200000 < L) (b:Bk) (hS:SndB b) (a:Adr) (j:Nat) (hj:j < b.H.length) (hf:zex (fun x=>yJ x.a a) b.H 0=(j:Int)) (k:List V→Int→Option β):zy β (L+100) b.v a.v k=k (zuE b j b.H[j]).v 0:=by
 have hH:=hS.lenH
 have hT:=hS.lenT
 have hrl:(zfU b.H j).length≤b.H.length:=(zez _ _).length_le
 have hne:b.H.isEmpty=false:=by
  cases he:b.H with
  | nil=>rw [he] at hj; simp at hj
  | cons x l=>rfl
 unfold zy zrl
 rw [xc (by rw [b.len]; omega),b.take,b.dem,zGG _ b (by omega) (by omega) (by omega),(zs7 b).2 hS,Bool.not_true,zb1,zb9 b.g32,xc (by show 0+3≤3; omega),zlt,zBt _ b.H (by omega) (by omega),hf,zar,if_neg (by omega),xc (by rw [b.len]; omega),zB6 _ b (by omega) (by omega),xc (by omega),at0,xc (by rw [zj5]; omega),zH1 hj,xc ⟨rfl,by omega⟩,z5,yx,zs6,hne,zb1,zej,zwj _ b.H (by omega) j hj,xc (by rw [b.len]; omega),xc (by show 1+3≤5; omega),b.t32,p13,zFC L b.salt b.hs,xc (by show 1=1∧0+1≤5; omega),yx,zKq,cB0,zy6,zs6]
 unfold zuE
 have hb:(zfi b b.H[j]).b=tbk b.salt b.H[j].a:=zy6 _ _
 generalize zfi b b.H[j]=p at hb ⊢
 generalize tbk b.salt b.H[j].a=v at hb ⊢
 have hr:=zxp b.T v
 cases he:b.T.isEmpty with
 | true =>
  have hn:b.T=[]:=by simpa using he
  have hlen:b.T.length=0:=by rw [hn]; rfl
  rw [zfs,zej,zpA _ b.T (by omega) (by omega),yx,y7 (by omega) (by omega),zar,if_neg (by omega),if_neg (by omega),xc (by show 0+5≤5; omega),zfs,zt6,zmf _ b.T (by omega) (by omega),zar,if_neg (by omega),b.mk_v,b.v_mk]
 | false =>
  rw [zb1,zej,zpA _ b.T (by omega) (by omega),yx,y7 (by omega) (by omega),zar]
  by_cases h8:toN b.T v - zaf b.T v ≥ 8
  ·have hl:zaf b.T v < b.T.length:=by omega
   have hrt:(zfU b.T (zaf b.T v)).length≤b.T.length:=(zez _ _).length_le
   have hil:(zk2 (zfU b.T (zaf b.T v)) p).length≤b.T.length+1:=by
    unfold zk2
    simp only [List.length_append,List.length_take,List.length_drop,List.length_singleton]
    omega
   rw [if_pos (by omega),if_pos h8,xc (by omega),at0,xc (by rw [zj5]; omega),zDI hl,xc ⟨rfl,by omega⟩,z3,yx,zwj _ b.T (by omega) _ hl,xc (by show 0+5≤5; omega),zt6,zmf _ (zfU b.T (zaf b.T v)) (by omega) (by omega),zar,if_pos (by omega),xc (by show 0+3≤3; omega),xc (by show 0+3≤3; omega),zlt,zyZ,b.mk_v,b.v_mk,zFb L hL _ (by show (zfU b.H j).length≤100000; omega) (by show (zk2 (zfU b.T (zaf b.T v)) p).length≤100000; omega)]
   rw [List.getElem?_eq_getElem hl]
   exact zHs _ k
  ·rw [if_neg (by omega),if_neg h8,xc (by show 0+5≤5; omega),zt6,zmf _ b.T (by omega) (by omega),zar,if_neg (by omega),b.mk_v,b.v_mk]
theorem z34 (z:List V) (hz:z.length=34) (b:Bk):xg z 0 b.v=b.v:=zc3 (by rw [b.len,hz])
theorem zH3 (L:Nat) (hL:200000 < L) (b:Bk) (hS:SndB b) (a:Adr) (src:Int) (k:List V→Bool→Int→Option β):zu β (L+100) b.v a.v src k=k (zkk b a src).1.v (zkk b a src).2 0:=by
 have hH:=hS.lenH
 have hT:=hS.lenT
 unfold zu zpW
 rw [xc (by rw [b.len]; omega),b.take,b.dem,zGG _ b (by omega) (by omega) (by omega),(zs7 b).2 hS,Bool.not_true,zb1,xc (by rw [b.len]; omega),xc (by show 0+3≤3; omega),zlt,zFb L hL b (by omega) (by omega)]
 generalize (zkk b a src).1=b'
 generalize (zkk b a src).2=r
 rw [xc ⟨b'.len,by omega⟩,z34 _ (by simp),yx,xc (by rw [b'.len]; omega),b'.take,xc ⟨b'.len,by omega⟩,z34 _ (by simp),yx,xc ⟨rfl,b'.len,by omega⟩]
end
end Go.Proofs.Ytpafdnidhnldhaa
