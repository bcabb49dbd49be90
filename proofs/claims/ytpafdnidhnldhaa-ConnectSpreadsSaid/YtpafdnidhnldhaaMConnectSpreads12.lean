/- Part 12 of the proof of ConnectSpreads: an abstract machine over plain values, its soundness, and the functions of the program on plain values. -/
import Derived.Test.YtpafdnidhnldhaaMConnectSpreads11
namespace Go.Proofs.Ytpafdnidhnldhaa
section
set_option linter.unusedVariables false
set_option maxRecDepth 100000
variable {β:Type}
def zjx (m:Int) (i:Nat):List Int→Int
 | []=>m
 | b::bs=>zjx (ior .u64 m (zr8 .u64 (IntKind.wrap .u64 b) (IntKind.wrap .i64 (8 * (i:Int))))) (i+1) bs
theorem zvL (L:Nat) (kx:Int→Option β) (l:List Int) (hl:l.length≤1000000):∀ (n:Nat) (m:Int) (i:Nat),i≤l.length→l.length - i < n→zgE L kx n m (za0 .u8 l) (l.length:Int) (i:Int)=kx (zjx m i (l.drop i))
 | 0,m,i,hi,hn=>by omega
 | n+1,m,i,hi,hn=>by
  simp only [zgE,znw,zB]
  by_cases h:i < l.length
  ·rw [zaz (by omega),zaB (zzt _ h),yI (by rfl),ze (by rw [zai (by omega) (by omega)]; omega)]
   rw [show IntKind.wrap .i64 ((i:Int)+1)=((i+1:Nat):Int) by rw [zai (by omega) (by omega)]; omega]
   rw [zvL L kx l hl n _ (i+1) (by omega) (by omega),List.drop_eq_getElem_cons h]
   rfl
  ·rw [zaT (by omega),List.drop_of_length_le (by omega)]
   rfl
theorem zuM (L:Nat) (l:List Int) (hl:l.length≤1000000) (hL:l.length < L) (k:Int→Option β):zw β L (za0 .u8 l) k=k (zjx 0 0 l):=by
 simp only [zw,zqK,zvd,ze4]
 exact zvL L _ l hl L 0 0 (by omega) (by omega)
theorem zvJ (L:Nat) (kx:Int→Option β) (l:List Int) (hl:l.length≤1000000):∀ (n:Nat) (m:Int) (i:Nat),i≤l.length→l.length - i < n→ze9 L kx n (za0 .u8 l) m (l.length:Int) (i:Int)=kx (zjx m i (l.drop i))
 | 0,m,i,hi,hn=>by omega
 | n+1,m,i,hi,hn=>by
  simp only [ze9,zk4,zB]
  by_cases h:i < l.length
  ·rw [zaz (by omega),zaB (zzt _ h),yI (by rfl),ze (by rw [zai (by omega) (by omega)]; omega)]
   rw [show IntKind.wrap .i64 ((i:Int)+1)=((i+1:Nat):Int) by rw [zai (by omega) (by omega)]; omega]
   rw [zvJ L kx l hl n _ (i+1) (by omega) (by omega),List.drop_eq_getElem_cons h]
   rfl
  ·rw [zaT (by omega),List.drop_of_length_le (by omega)]
   rfl
theorem zvx (L:Nat) (l:List Int) (hl:l.length≤1000000) (hL:l.length < L) (k:Int→Option β):xo β L (za0 .u8 l) k=k (zjx 0 0 l):=by
 simp only [xo,zn3,zsi,ze4]
 exact zvJ L _ l hl L 0 0 (by omega) (by omega)
theorem zAa (L:Nat) (hL:8 < L) (l:List Int) (h:l.length=32) (k:List V→Option β):z6 β L (row .u8 l) k=k (row .u64 [zjx 0 0 (l.take 8),zjx 0 0 ((l.drop 8).take 8)])∧zQ β L (row .u8 l) k=k (row .u64 [zjx 0 0 (l.take 8),zjx 0 0 ((l.drop 8).take 8)]):=by
 constructor
 ·simp only [z6,zwG,zB,zcD,h,zDI]
  rw [ze (by decide),zn6 _ _ _ (by omega),zuM _ _ (by simp; omega) (by simp; omega),ze (by decide),zn6 _ _ _ (by simp; omega),zuM _ _ (by simp; omega) (by simp; omega),ze (by simp)]
  rfl
 ·simp only [zQ,ztI,zB,zcD,h,zDI]
  rw [ze (by decide),zn6 _ _ _ (by omega),zvx _ _ (by simp; omega) (by simp; omega),ze (by decide),zn6 _ _ _ (by simp; omega),zvx _ _ (by simp; omega) (by simp; omega),ze (by simp)]
  rfl
end
section
set_option linter.unusedVariables false
set_option linter.unusedSimpArgs false
set_option maxRecDepth 100000
variable {β:Type}
theorem zpQ {inst:Decidable ((4:Nat)≠0)} (k:Option β):@chk β ((4:Nat)≠0) inst k=k:=if_pos (by omega)
structure S4 where
 a:Int
 b:Int
 c:Int
 d:Int
def S4.row (s:S4):List V:=[.sc (.int .u64 s.a),.sc (.int .u64 s.b),.sc (.int .u64 s.c),.sc (.int .u64 s.d)]
def zrL (x n:Int):Int:=ior .u64 (zr8 .u64 x (zIt .u64 (IntKind.wrap .u64 n) 63)) (zo0 .u64 x (IntKind.wrap .u64 (64 - zIt .u64 (IntKind.wrap .u64 n) 63)))
theorem zI1 (L:Nat) (x:Int) (k:Int→Option β):yd β L x 13 k=k (zrL x 13):=by kernel_rfl
theorem zIZ (L:Nat) (x:Int) (k:Int→Option β):yd β L x 32 k=k (zrL x 32):=by kernel_rfl
theorem zIW (L:Nat) (x:Int) (k:Int→Option β):yd β L x 16 k=k (zrL x 16):=by kernel_rfl
theorem zIY (L:Nat) (x:Int) (k:Int→Option β):yd β L x 21 k=k (zrL x 21):=by kernel_rfl
theorem zIV (L:Nat) (x:Int) (k:Int→Option β):yd β L x 17 k=k (zrL x 17):=by kernel_rfl
def r1 (s:S4):S4:=⟨IntKind.wrap .u64 (s.a+s.b),s.b,s.c,s.d⟩
def r2 (s:S4):S4:=⟨s.a,zbe .u64 (zrL s.b 13) s.a,s.c,s.d⟩
def r3 (s:S4):S4:=⟨zrL s.a 32,s.b,s.c,s.d⟩
def r4 (s:S4):S4:=⟨s.a,s.b,IntKind.wrap .u64 (s.c+s.d),s.d⟩
def r5 (s:S4):S4:=⟨s.a,s.b,s.c,zbe .u64 (zrL s.d 16) s.c⟩
def r6 (s:S4):S4:=⟨IntKind.wrap .u64 (s.a+s.d),s.b,s.c,s.d⟩
def r7 (s:S4):S4:=⟨s.a,s.b,s.c,zbe .u64 (zrL s.d 21) s.a⟩
def r8 (s:S4):S4:=⟨s.a,s.b,IntKind.wrap .u64 (s.c+s.b),s.d⟩
def r9 (s:S4):S4:=⟨s.a,zbe .u64 (zrL s.b 17) s.c,s.c,s.d⟩
def r10 (s:S4):S4:=⟨s.a,s.b,zrL s.c 32,s.d⟩
def rnd (s:S4):S4:=r10 (r9 (r8 (r7 (r6 (r5 (r4 (r3 (r2 (r1 s)))))))))
theorem c0 (s:S4) (k:Int→Option β):cI .u64 s.row 0 k=k s.a:=by cases s; rfl
theorem c1 (s:S4) (k:Int→Option β):cI .u64 s.row 1 k=k s.b:=by cases s; rfl
theorem c2 (s:S4) (k:Int→Option β):cI .u64 s.row 2 k=k s.c:=by cases s; rfl
theorem c3 (s:S4) (k:Int→Option β):cI .u64 s.row 3 k=k s.d:=by cases s; rfl
theorem zGx (s:S4) (x:Int):zh s.row 0 [.sc (.int .u64 x)]=S4.row ⟨x,s.b,s.c,s.d⟩:=by cases s; rfl
theorem zKb (s:S4) (x:Int):zh s.row 1 [.sc (.int .u64 x)]=S4.row ⟨s.a,x,s.c,s.d⟩:=by cases s; rfl
theorem zGd (s:S4) (x:Int):zh s.row 2 [.sc (.int .u64 x)]=S4.row ⟨s.a,s.b,x,s.d⟩:=by cases s; rfl
theorem zFZ (s:S4) (x:Int):zh s.row 3 [.sc (.int .u64 x)]=S4.row ⟨s.a,s.b,s.c,x⟩:=by cases s; rfl
theorem zrq (s t:S4):zh s.row 0 t.row=t.row:=by cases s; cases t; rfl
theorem zFY (z0 z1 z2 z3:Int) (t:S4):zh [V.sc (.int .u64 z0),V.sc (.int .u64 z1),V.sc (.int .u64 z2),V.sc (.int .u64 z3)] 0 t.row=t.row:=by cases t; rfl
theorem zmd (s:S4):s.row.length=4:=by cases s; rfl
theorem zn9 (s:S4):s.row.take 4=s.row:=by cases s; rfl
theorem zCk (L:Nat) (s:S4) (k:List V→Option β):xl β L s.row k=k (rnd s).row:=by
 simp only [xl,zqh,zB,c0,c1,c2,c3,zGx,zKb,zGd,zFZ,zI1,zIZ,zIW,zIY,zIV,zmd,zn9,zFY]
 repeat rw [ze (by decide)]
 rfl
theorem zHD (L:Nat) (p5 p6:Int) (s:S4) (z0 z1 z2 z3:Int) (kh:Int→Int→List V→Int→Int→Int→Int→Option β) (kx:List V→Int→Int→Int→Int→Option β) (h:p6 < p5):zfJ yd L p5 p6 s.row z0 z1 z2 z3 kh kx=kh p5 (IntKind.wrap .i64 (p6+1)) (rnd s).row z0 z1 z2 z3:=by
 simp only [zfJ,zB,c0,c1,c2,c3,zGx,zKb,zGd,zFZ,zI1,zIZ,zIW,zIY,zIV,zmd,zpQ,zlX,true_and,and_true,and_self,Nat.reduceAdd,Nat.reduceMul,Nat.reduceLeDiff,Nat.le_refl,Nat.zero_add]
 rw [zaz h]
 simp only [rnd,r1,r2,r3,r4,r5,r6,r7,r8,r9,r10]
def zB2:Nat→S4→S4
 | 0,s=>s
 | n+1,s=>zB2 n (rnd s)
theorem zsM (L:Nat) (kx:List V→Int→Int→Int→Int→Option β) (z0 z1 z2 z3:Int) (m:Nat) (hm:m≤1000):∀ (n i:Nat) (s:S4),i≤m→m - i < n→zfz yd L kx n (m:Int) (i:Int) s.row z0 z1 z2 z3=kx (zB2 (m - i) s).row z0 z1 z2 z3
 | 0,i,s,hi,hn=>by omega
 | n+1,i,s,hi,hn=>by
  simp only [zfz]
  by_cases h:i < m
  ·rw [zHD _ _ _ _ _ _ _ _ _ _ (by omega)]
   rw [show IntKind.wrap .i64 ((i:Int)+1)=((i+1:Nat):Int) by rw [zai (by omega) (by omega)]; omega]
   rw [zsM L kx z0 z1 z2 z3 m hm n (i+1) _ (by omega) (by omega),show m - i=(m - (i+1))+1 by omega]
   rfl
  ·simp only [zfJ]
   rw [zaT (by omega),show m - i=0 by omega]
   rfl
theorem zAG (L:Nat) (s:S4) (m:Nat) (hm:m≤1000) (hL:m < L) (k:List V→Option β):xp β L s.row (m:Int) k=k (zB2 m s).row:=by
 simp only [xp,zno,zsb]
 rw [show (0:Int)=((0:Nat):Int) from rfl,zsM L _ _ _ _ _ m hm L 0 s (by omega) (by omega)]
 simp only [zkA,zB,zmd,zn9,Nat.sub_zero,zFY,zpQ,zlX,true_and,and_true,and_self,Nat.reduceAdd,Nat.reduceMul,Nat.reduceLeDiff,Nat.le_refl,Nat.zero_add]
def zsg (s:S4) (m:Int):S4:=⟨zbe .u64 (rnd (rnd ⟨s.a,s.b,s.c,zbe .u64 s.d m⟩)).a m,(rnd (rnd ⟨s.a,s.b,s.c,zbe .u64 s.d m⟩)).b,(rnd (rnd ⟨s.a,s.b,s.c,zbe .u64 s.d m⟩)).c,(rnd (rnd ⟨s.a,s.b,s.c,zbe .u64 s.d m⟩)).d⟩
theorem zAO (L:Nat) (hL:2 < L) (s:S4) (m:Int) (k:List V→Option β):yy β L s.row m k=k (zsg s m).row:=by
 simp only [yy,zru,zB,c3,zFZ,zmd,zn9,zpQ,zlX,true_and,and_true,and_self,Nat.reduceAdd,Nat.reduceMul,Nat.reduceLeDiff,Nat.le_refl,Nat.zero_add]
 rw [show (2:Int)=((2:Nat):Int) from rfl,zAG L _ 2 (by omega) hL]
 simp only [zmd,zrq,c0,zGx,zn9,zFY,zB2,zsg,zpQ,zlX,true_and,and_true,and_self,Nat.reduceAdd,Nat.reduceMul,Nat.reduceLeDiff,Nat.le_refl,Nat.zero_add]
theorem zA5 (L:Nat) (s:S4) (m:Int) (k:List V→Option β):xr β L s.row m k=k (zsg s m).row:=by
 simp only [xr,zoF,zB,c3,zFZ,zmd,zn9,zCk,zrq,c0,zGx,zFY,zsg,zpQ,zlX,true_and,and_true,and_self,Nat.reduceAdd,Nat.reduceMul,Nat.reduceLeDiff,Nat.le_refl,Nat.zero_add]
def zrt:Nat→S4→List Int→S4
 | 0,s,_=>s
 | n+1,s,l=>zrt n (zsg s (zjx 0 0 (l.take 8))) (l.drop 8)
def zFH (s:S4) (n:Int) (l:List Int):S4:=zsg s (ior .u64 (zjx 0 0 l) (zr8 .u64 (IntKind.wrap .u64 (Int.tmod n 256)) 56))
def zGo (s:S4):S4:=zB2 4 ⟨s.a,s.b,zbe .u64 s.c 255,s.d⟩
def zDG (s:S4):Int:=zbe .u64 (zbe .u64 (zbe .u64 s.a s.b) s.c) s.d
def zFQ (s:S4) (n:Int) (l:List Int):Int:=zDG (zGo (zFH s n l))
def zsW (x y:Int):S4:=⟨zbe .u64 x 8317987319222330741,zbe .u64 y 7237128888997146477,zbe .u64 x 7816392313619706465,zbe .u64 y 8387220255154660723⟩
def zqW (x y:Int) (l:List Int):Int:=zFQ (zrt (l.length / 8) (zsW x y) l) l.length (l.drop (l.length / 8 * 8))
theorem zxr (L:Nat) (hL:10 < L) (l:List Int) (hl:l.length≤1000000) (kx:List (List V)→Int→List V→Option β) (p6:Int):∀ (n i:Nat) (s:S4),i≤l.length / 8→l.length / 8 - i < n→zgB zw yy xp L kx n (za0 .u8 l) p6 ((l.length / 8:Nat):Int) (i:Int) s.row=kx (za0 .u8 l) p6 (zrt (l.length / 8 - i) s (l.drop (8 * i))).row
 | 0,i,s,hi,hn=>by omega
 | n+1,i,s,hi,hn=>by
  simp only [zgB,zm4,zB,zmd,zn9,ze4]
  by_cases h:i < l.length / 8
  ·have e1:IntKind.wrap .i64 (8 * (i:Int))=((8 * i:Nat):Int):=by rw [zai (by omega) (by omega)]; omega
   have e2:IntKind.wrap .i64 (((8 * i:Nat):Int)+8)=((8 * i+8:Nat):Int):=by rw [zai (by omega) (by omega)]; omega
   have e3:IntKind.wrap .i64 ((i:Int)+1)=((i+1:Nat):Int):=by rw [zai (by omega) (by omega)]; omega
   rw [zaz (by omega),e1,e2,e3,ze (by decide),ze (by omega),ze (by simp; omega)]
   simp only [Int.toNat_natCast,zxj,zxJ]
   rw [zuM _ _ (by simp; omega) (by simp; omega),zAO _ (by omega)]
   simp only [zmd,zrq]
   rw [ze (by decide),zxr L hL l hl kx p6 n (i+1) _ (by omega) (by omega),show l.length / 8 - i=(l.length / 8 - (i+1))+1 by omega,zrt,List.drop_drop]
   rw [show 8 * i+8 - 8 * i=8 by omega,show 8 * (i+1)=8 * i+8 by omega]
  ·rw [zaT (by omega),show l.length / 8 - i=0 by omega]
   rfl
theorem zx0 (L:Nat) (x y:Int) (l:List Int) (hl:l.length≤1000000) (hL:l.length+10 < L) (k:Int→Option β):yV β L (row .u64 [x,y]) (za0 .u8 l) k=k (zqW x y l):=by
 simp only [yV,zsN,zwT,zB,ze4]
 rw [yI (n:=x) (by rfl),yI (n:=y) (by rfl),yI (n:=x) (by rfl),yI (n:=y) (by rfl)]
 have e1:IntKind.wrap .i64 (Int.tdiv (l.length:Int) 8)=((l.length / 8:Nat):Int):=by
  rw [Int.tdiv_eq_ediv_of_nonneg (by omega),zai (by omega) (by omega)]; omega
 rw [e1,show (0:Int)=((0:Nat):Int) from rfl]
 have:=zxr (β:=β) L (by omega) l hl (fun p1 p6 b5=>zhp zw yy xp L p1 p6 b5 k) ((l.length / 8:Nat):Int) L 0 (zsW x y) (by omega) (by omega)
 refine (show _=_ from this).trans ?_
 have e2:IntKind.wrap .i64 (8 * ((l.length / 8:Nat):Int))=((l.length / 8 * 8:Nat):Int):=by rw [zai (by omega) (by omega)]; omega
 simp only [zhp,zB,zmd,zn9,ze4,Nat.sub_zero,Nat.mul_zero,List.drop_zero]
 rw [ze (by decide),e2,ze (by omega)]
 simp only [Int.toNat_natCast,zxj,zxJ]
 rw [List.take_of_length_le (by simp),zuM _ _ (by simp; omega) (by simp; omega),zAO _ (by omega)]
 simp only [zmd,zrq,c2,zGd,zn9,zpQ,zlX,true_and,and_true,and_self,Nat.reduceAdd,Nat.reduceMul,Nat.reduceLeDiff,Nat.le_refl,Nat.zero_add]
 rw [show (4:Int)=((4:Nat):Int) from rfl,zAG _ _ 4 (by omega) (by omega)]
 simp only [zmd,zrq,c0,c1,c2,c3,zqW,zFQ,zFH,zGo,zDG,zpQ,zlX,true_and,and_true,and_self,Nat.reduceAdd,Nat.reduceMul,Nat.reduceLeDiff,Nat.le_refl,Nat.zero_add]
theorem zFL (n:Nat):∀ (s:S4) (l:List Int),zrt (n+1) s l=zrt n (zsg s (zjx 0 0 (l.take 8))) (l.drop 8):=fun _ _=>rfl
theorem zxD (L:Nat) (hL:10 < L) (kx:List (List V)→Int→List V→Option β) (p6:Int):∀ (n:Nat) (l:List Int) (s:S4),l.length≤1000000→l.length / 8 < n→zfH xo xr xl L kx n (za0 .u8 l) p6 s.row=kx (za0 .u8 (l.drop (l.length / 8 * 8))) p6 (zrt (l.length / 8) s l).row
 | 0,l,s,hl,hn=>by omega
 | n+1,l,s,hl,hn=>by
  simp only [zfH,zl9,zB,zmd,zn9,ze4]
  by_cases h:8≤l.length
  ·rw [zaz (by omega),ze (by decide),ze (by omega)]
   simp only [zxj,zxJ,List.drop_zero]
   rw [zvx _ _ (by simp; omega) (by simp; omega),zA5,ze (by omega)]
   simp only [zmd,zrq]
   rw [ze (by decide),List.take_of_length_le (by simp),zxD L hL kx p6 n _ _ (by simp; omega) (by simp; omega)]
   have e:(l.drop 8).length / 8=l.length / 8 - 1:=by simp; omega
   rw [e,List.drop_drop,show 8+(l.length / 8 - 1) * 8=l.length / 8 * 8 by omega]
   obtain ⟨q,hq⟩:∃ q,l.length / 8=q+1:=⟨l.length / 8 - 1,by omega⟩
   rw [hq,zFL]
   rfl
  ·have e:l.length / 8=0:=by omega
   rw [zaT (by omega),e]
   rfl
theorem zxV (L:Nat) (x y:Int) (l:List Int) (hl:l.length≤1000000) (hL:l.length+10 < L) (k:Int→Option β):yM β L (row .u64 [x,y]) (za0 .u8 l) k=k (zqW x y l):=by
 simp only [yM,zpc,ztC,zB,ze4]
 rw [yI (n:=x) (by rfl),yI (n:=y) (by rfl),yI (n:=x) (by rfl),yI (n:=y) (by rfl)]
 have:=zxD (β:=β) L (by omega) (fun p1 p6 b5=>zgo xo xr xl L p1 p6 b5 k) (l.length:Int) L l (zsW x y) hl (by omega)
 refine (show _=_ from this).trans ?_
 simp only [zgo,zB,zmd,zn9]
 rw [ze (by decide),zvx _ _ (by simp; omega) (by simp; omega)]
 simp only [zA5,zmd,zrq,c2,zGd,zn9,zCk,c0,c1,c3,zqW,zFQ,zFH,zGo,zDG,zB2,zpQ,zlX,true_and,and_true,and_self,Nat.reduceAdd,Nat.reduceMul,Nat.reduceLeDiff,Nat.le_refl,Nat.zero_add]
end
section
set_option linter.unusedVariables false
set_option linter.unusedSimpArgs false
variable {β:Type}
structure Adr where
 h:Int
 p:Int
 t:Int
def Adr.v (a:Adr):List V:=[.sc (.int .u32 a.h),.sc (.int .u16 a.p),.sc (.int .u32 a.t)]
structure Lnk where
 k:Int
 a:Adr
def Lnk.v (l:Lnk):List V:=[.sc (.int .i64 l.k),.sc (.int .u32 l.a.h),.sc (.int .u16 l.a.p),.sc (.int .u32 l.a.t)]
def grp (a:Adr):Int:=zo0 .u32 a.h 16
def zam (l:List Lnk):List (List V):=l.map Lnk.v
theorem zdn (l:List Lnk):(zam l).length=l.length:=by simp [zam]
theorem zo1 {l:List Lnk} {i:Nat} (h:i < l.length):(zam l)[i]?=some l[i].v:=by simp [zam,h]
theorem zCI (l:List Lnk) (i:Nat):(zam l).take i=zam (l.take i):=by simp [zam,List.map_take]
theorem zoQ (L:Nat) (a:Adr) (k:Int→Option β):ya β L a.v k=k (grp a):=by
 simp only [ya,zma,Adr.v,zB]
 rw [yI (by rfl)]; rfl
theorem zzk (L:Nat) (a:Adr) (k:Int→Option β):yk β L a.v k=k (grp a):=by
 simp only [yk,zql,Adr.v,zB]
 rw [yI (by rfl)]; rfl
def tkn (l:List Lnk) (a:Adr):Bool:=l.any (fun e=>grp e.a == grp a)
theorem zIq (L:Nat) (l:Lnk) (a:Adr) (k:Bool→List V→Option β):yj β L l.v a.v k=k (grp l.a == grp a) a.v:=by
 simp only [yj,zkd]
 have e1:List.take 3 (List.drop 1 l.v)=l.a.v:=rfl
 have e2:List.take 3 a.v=a.v:=rfl
 rw [ze (by show 1+3≤4; omega),e1,zoQ,ze (by show 0+3≤3; omega),e2,zoQ]
theorem zyP (L:Nat) (ls:List Lnk) (hl:ls.length≤1000000) (a:Adr) (kr:Int→List V→Option β) (kx:List V→Option β) (k:Bool→Option β) (hr:∀ j:Nat,kr (j:Int) a.v=k true) (hx:kx a.v=k false) :
  ∀ (m i:Nat),i≤ls.length→ls.length - i < m→zaf yj L kr kx m (zam ls) ((ls.length:Nat):Int) (i:Int) a.v=k (tkn (ls.drop i) a)
 | 0,i,h1,h2=>by omega
 | m+1,i,h1,h2=>by
  simp only [zaf,zbY,zB]
  by_cases h:i < ls.length
  ·have e1:List.take 4 ls[i].v=ls[i].v:=rfl
   rw [zaz (by omega),zaB (zo1 h),e1,zIq,ze rfl,zac (by omega),zyP L ls hl a kr kx k hr hx m (i+1) (by omega) (by omega),List.drop_eq_getElem_cons h,hr]
   have e:tkn (ls[i]::ls.drop (i+1)) a=(grp ls[i].a == grp a || tkn (ls.drop (i+1)) a):=rfl
   rw [e]
   cases (grp ls[i].a == grp a) <;> rfl
  ·rw [zaT (by omega),hx,List.drop_of_length_le (by omega)]; rfl
theorem zsH (L:Nat) (ls:List Lnk) (hl:ls.length≤1000000) (hL:ls.length < L) (a:Adr) (k:Bool→Option β):xa β L (zam ls) a.v k=k (tkn ls a):=by
 simp only [xa,zl5,yq,zb5,zu,zbh,zcp,zdn]
 rw [show ((0:Int))=((0:Nat):Int) from rfl,zyP L ls hl a _ _ k (fun j=>?_) ?_ L 0 (by omega) (by omega),List.drop_zero]
 ·simp only [zbx]
  rw [zlX,zlX]
  rfl
 ·simp only [zbv]
  rw [zlX,zlX,decide_eq_true (by omega)]
theorem zEj (L:Nat) (n:Int) (k:Bool→Option β):xi β L n k=k (decide (1≤n∧n≤3)):=by
 simp only [xi,znJ,zeg]
 by_cases h1:n=1
 ·subst h1; rfl
 ·rw [if_neg h1]
  by_cases h2:n=2
  ·subst h2; rfl
  ·rw [if_neg h2]
   congr 1
   rw [Bool.eq_iff_iff]
   simp
   omega
def snd (l:List Lnk) (i:Nat):Bool:=match l[i]? with
 | some e=>decide (1≤e.k∧e.k≤3) && !(tkn (l.take i) e.a)
 | none=>true
def zBx (l:List Lnk) (i:Nat):Nat→Bool
 | 0=>true
 | n+1=>snd l i && zBx l (i+1) n
def ziG (l:List Lnk):Bool:=decide (l.length≤8) && zBx l 0 l.length
theorem zyV (L:Nat) (ls:List Lnk) (hl:ls.length≤8) (hL:100≤L) (kr:Bool→Option β) (kx:Option β) (k:Bool→Option β) (hr:kr false=k false) (hx:kx=k true) :
  ∀ (m i:Nat),i≤ls.length→ls.length - i < m→zdF xi xa L kr kx m (zam ls) (zam ls) ((ls.length:Nat):Int) (i:Int)=k (zBx ls i (ls.length - i))
 | 0,i,h1,h2=>by omega
 | m+1,i,h1,h2=>by
  simp only [zdF,zh6,zB]
  by_cases h:i < ls.length
  ·have e1:List.take 4 ls[i].v=ls[i].v:=rfl
   have e2:zh [(V.sc (.int .i64 (0:Int))),(V.sc (.int .u32 (0:Int))),(V.sc (.int .u16 (0:Int))),(V.sc (.int .u32 (0:Int)))] 0 ls[i].v=ls[i].v:=zdq rfl
   have e3:List.take 3 (List.drop 1 ls[i].v)=ls[i].a.v:=rfl
   have e4:ls.length - i=(ls.length - (i+1))+1:=by omega
   rw [zaz (by omega),zaB (zo1 h),e1,ze ⟨rfl,by omega⟩,e2,yI (n:=ls[i].k) rfl,zEj,zzo,e4,zBx,snd,List.getElem?_eq_getElem h]
   simp only
   by_cases hk:1≤ls[i].k∧ls[i].k≤3
   ·rw [if_pos hk,zdn,ze ⟨by omega,by omega⟩,ze (by show 1+3≤4; omega),e3,Nat.sub_zero,Int.toNat_natCast,List.drop_zero,zCI,zsH L (ls.take i) (by simp; omega) (by simp; omega),decide_eq_true hk]
    cases hb:tkn (ls.take i) ls[i].a with
    | true=>exact hr
    | false =>
     rw [zaL,zac (by omega),zyV L ls hl hL kr kx k hr hx m (i+1) (by omega) (by omega)]
     rfl
   ·rw [if_neg hk,hr,decide_eq_false hk]; rfl
  ·rw [zaT (by omega),hx,show ls.length - i=0 by omega]; rfl
theorem zwI (L:Nat) (ls:List Lnk) (hL:100≤L) (k:Bool→Option β):xb β L (zam ls) k=k (ziG ls):=by
 simp only [xb,zjy,zm1,zdn,zaA]
 by_cases h:ls.length≤8
 ·rw [if_neg (by omega),show ((0:Int))=((0:Nat):Int) from rfl]
  refine (zyV L ls h hL _ _ k ?_ ?_ L 0 (by omega) (by omega)).trans ?_
  ·rfl
  ·rfl
  ·rw [ziG,decide_eq_true h]; rfl
 ·rw [if_pos (by omega),ziG,decide_eq_false h]
  rfl
end
section
set_option linter.unusedVariables false
set_option linter.unusedSimpArgs false
variable {β:Type}
def cnt (kd:Int):List Lnk→Nat
 | []=>0
 | l::ls=>(if l.k=kd then 1 else 0)+cnt kd ls
theorem zDW (kd:Int):∀ ls:List Lnk,cnt kd ls≤ls.length
 | []=>Nat.le_refl _
 | l::ls=>by have:=zDW kd ls; simp only [cnt,List.length_cons]; split <;> omega
theorem zu5 (L:Nat) (ls:List Lnk) (hl:ls.length≤1000000) (kx:Int→Option β):∀ (m i c:Nat),c≤i→i≤ls.length→ls.length - i < m→zdE ym L kx m (c:Int) (zam ls) ((ls.length:Nat):Int) (i:Int)=kx ((c+cnt 1 (ls.drop i):Nat):Int)
 | 0,i,c,h0,h1,h2=>by omega
 | m+1,i,c,h0,h1,h2=>by
  simp only [zdE,zh1,zB]
  by_cases h:i < ls.length
  ·have e1:List.take 4 ls[i].v=ls[i].v:=rfl
   have e2:zh [(V.sc (.int .i64 (0:Int))),(V.sc (.int .u32 (0:Int))),(V.sc (.int .u16 (0:Int))),(V.sc (.int .u32 (0:Int)))] 0 ls[i].v=ls[i].v:=zdq rfl
   have e:cnt 1 (ls[i]::ls.drop (i+1))=(if ls[i].k=1 then 1 else 0)+cnt 1 (ls.drop (i+1)):=rfl
   rw [zaz (by omega),zaB (zo1 h),e1,ze ⟨rfl,by omega⟩,e2,ze (by show 0+4≤4; omega),e1,ym,zkp,yI (n:=ls[i].k) rfl,zeg,List.drop_eq_getElem_cons h,e]
   by_cases hk:ls[i].k=1
   ·rw [if_pos hk,if_pos hk,zac (by omega),zac (by omega),zu5 L ls hl kx m (i+1) (c+1) (by omega) (by omega) (by omega),Nat.add_assoc]
   ·rw [if_neg hk,if_neg hk,zac (by omega),zu5 L ls hl kx m (i+1) c (by omega) (by omega) (by omega),Nat.zero_add]
  ·rw [zaT (by omega),List.drop_of_length_le (by omega)]; rfl
theorem zIy (L:Nat) (ls:List Lnk) (hl:ls.length≤1000000) (hL:ls.length < L) (k:Int→Option β):zn β L (zam ls) k=k ((cnt 1 ls:Nat):Int):=by
 simp only [zn,zjf,znZ,zdn]
 rw [show ((0:Int))=((0:Nat):Int) from rfl,zu5 L ls hl _ L 0 0 (by omega) (by omega) (by omega),List.drop_zero,Nat.zero_add]
 rfl
theorem zsd (L:Nat) (ls:List Lnk) (hl:ls.length≤1000000) (kx:Int→Option β):∀ (m i c:Nat),c≤i→i≤ls.length→ls.length - i < m→zc1 zm L kx m (c:Int) (zam ls) ((ls.length:Nat):Int) (i:Int)=kx ((c+cnt 3 (ls.drop i):Nat):Int)
 | 0,i,c,h0,h1,h2=>by omega
 | m+1,i,c,h0,h1,h2=>by
  simp only [zc1,zgZ,zB]
  by_cases h:i < ls.length
  ·have e1:List.take 4 ls[i].v=ls[i].v:=rfl
   have e2:zh [(V.sc (.int .i64 (0:Int))),(V.sc (.int .u32 (0:Int))),(V.sc (.int .u16 (0:Int))),(V.sc (.int .u32 (0:Int)))] 0 ls[i].v=ls[i].v:=zdq rfl
   have e:cnt 3 (ls[i]::ls.drop (i+1))=(if ls[i].k=3 then 1 else 0)+cnt 3 (ls.drop (i+1)):=rfl
   rw [zaz (by omega),zaB (zo1 h),e1,ze ⟨rfl,by omega⟩,e2,ze (by show 0+4≤4; omega),e1,zm,zjH,yI (n:=ls[i].k) rfl,zeg,List.drop_eq_getElem_cons h,e]
   by_cases hk:ls[i].k=3
   ·rw [if_pos hk,if_pos hk,zac (by omega),zac (by omega),zsd L ls hl kx m (i+1) (c+1) (by omega) (by omega) (by omega),Nat.add_assoc]
   ·rw [if_neg hk,if_neg hk,zac (by omega),zsd L ls hl kx m (i+1) c (by omega) (by omega) (by omega),Nat.zero_add]
  ·rw [zaT (by omega),List.drop_of_length_le (by omega)]; rfl
theorem zFJ (L:Nat) (ls:List Lnk) (hl:ls.length≤1000000) (hL:ls.length < L) (k:Int→Option β):zk β L (zam ls) k=k ((cnt 3 ls:Nat):Int):=by
 simp only [zk,zhe,zlb,zdn]
 rw [show ((0:Int))=((0:Nat):Int) from rfl,zsd L ls hl _ L 0 0 (by omega) (by omega) (by omega),List.drop_zero,Nat.zero_add]
 rfl
end
section
set_option linter.unusedVariables false
set_option linter.unusedSimpArgs false
variable {β:Type}
structure Plc where
 b:Int
 a:Adr
 s:Int
def Plc.v (e:Plc):List V:=[.sc (.int .i64 e.b),.sc (.int .u32 e.a.h),.sc (.int .u16 e.a.p),.sc (.int .u32 e.a.t),.sc (.int .u32 e.s)]
def zT (l:List Plc):List (List V):=l.map Plc.v
theorem zag (l:List Plc):(zT l).length=l.length:=by simp [zT]
theorem zcJ {l:List Plc} {i:Nat} (h:i < l.length):(zT l)[i]?=some l[i].v:=by simp [zT,h]
theorem zzd (l m:List Plc):zT l++zT m=zT (l++m):=by simp [zT]
def zed (l:List Adr):List (List V):=l.map Adr.v
theorem zzv (l:List Adr):(zed l).length=l.length:=by simp [zed]
theorem zEz {l:List Adr} {i:Nat} (h:i < l.length):(zed l)[i]?=some l[i].v:=by simp [zed,h]
def ziU (ls:List Lnk) (ps:List Plc):List Adr:=(ps.filter (fun e=>!tkn ls e.a)).map Plc.a
theorem zzc (ls:List Lnk) (ps:List Plc):(ziU ls ps).length≤ps.length:=by
 rw [ziU,List.length_map]; exact List.length_filter_le _ _
theorem zH4 (ls:List Lnk) (ps qs:List Plc):ziU ls (ps++qs)=ziU ls ps++ziU ls qs:=by simp [ziU]
theorem zIa {ls:List Lnk} {e:Plc} (ps:List Plc) (h:tkn ls e.a=false):ziU ls (e::ps)=e.a::ziU ls ps:=by simp [ziU,h]
theorem zJf {ls:List Lnk} {e:Plc} (ps:List Plc) (h:tkn ls e.a=true):ziU ls (e::ps)=ziU ls ps:=by simp [ziU,h]
theorem zJg (a:Adr):zl 3 1 (zh [(V.sc (.int .u32 (0:Int))),(V.sc (.int .u16 (0:Int))),(V.sc (.int .u32 (0:Int)))] 0 a.v)=[a.v]:=by
 rw [zdq (by rfl)]; rfl
theorem zGO (l:List Adr) (a:Adr):zed l++[a.v]=zed (l++[a]):=by simp [zed]
theorem zvl (L:Nat) (ls:List Lnk) (hl:ls.length≤1000000) (hL:ls.length < L) (ps:List Plc) (hp:ps.length≤1000000) (kx:List (List V)→List (List V)→Option β) :
  ∀ (m i:Nat) (out:List Adr),out.length≤1000000+i→i≤ps.length→ps.length - i < m→zcq xa L kx m (zT ps) ((ps.length:Nat):Int) (i:Int) (zam ls) (zed out)=kx (zam ls) (zed (out++ziU ls (ps.drop i)))
 | 0,i,out,h0,h1,h2=>by omega
 | m+1,i,out,h0,h1,h2=>by
  simp only [zcq,zfy,zB]
  by_cases h:i < ps.length
  ·have e1:List.take 5 ps[i].v=ps[i].v:=rfl
   have e2:zh [(V.sc (.int .i64 (0:Int))),(V.sc (.int .u32 (0:Int))),(V.sc (.int .u16 (0:Int))),(V.sc (.int .u32 (0:Int))),(V.sc (.int .u32 (0:Int)))] 0 ps[i].v=ps[i].v:=zdq rfl
   have e3:List.take 3 (List.drop 1 ps[i].v)=ps[i].a.v:=rfl
   rw [zaz (by omega),zaB (zcJ h),e1,ze ⟨rfl,by omega⟩,e2,ze (by show 1+3≤5; omega),e3,zsH L ls hl hL,List.drop_eq_getElem_cons h]
   cases hb:tkn ls ps[i].a with
   | true=>rw [Bool.not_true,zaL,zac (by omega),zvl L ls hl hL ps hp kx m (i+1) out (by omega) (by omega) (by omega),zJf _ hb]
   | false =>
    rw [Bool.not_false,ze0,ze (by show 1+3≤5; omega),ze ⟨rfl,by omega⟩,zJg,zzv,List.length_singleton,ze ⟨by simp only [zt]; omega,by simp only [zt]; omega⟩,zGO,zac (by omega),zvl L ls hl hL ps hp kx m (i+1) _ (by simp; omega) (by omega) (by omega),zIa _ hb,List.append_assoc]
    rfl
  ·rw [zaT (by omega),List.drop_of_length_le (by omega)]
   show _=kx (zam ls) (zed (out++[]))
   rw [List.append_nil]
theorem zBY (L:Nat) (ls:List Lnk) (hl:ls.length≤1000000) (hL:ls.length < L) (ps:List Plc) (hp:ps.length≤1000000) (hpL:ps.length < L) (out:List Adr) (ho:out.length≤1000000) (k:List (List V)→List (List V)→Option β) :
  zE β L (zT ps) (zam ls) (zed out) k=k (zam ls) (zed (out++ziU ls ps)):=by
 simp only [zE,zer,zgX,zag]
 rw [show ((0:Int))=((0:Nat):Int) from rfl,zvl L ls hl hL ps hp _ L 0 out (by omega) (by omega) (by omega),List.drop_zero]
 rfl
def zpq (H T:List Plc) (ls:List Lnk) (kd:Int):List Adr:=if kd=2 then ziU ls (T++H) else if kd=3 then ziU ls H else []
theorem zHP (L:Nat) (ls:List Lnk) (hl:ls.length≤1000000) (hL:ls.length < L) (p0:List V) (H T:List Plc) (hH:H.length≤1000000) (hT:T.length≤1000000) (hHL:H.length < L) (hTL:T.length < L) (g1:p0[32]?=some (.sl 5 (zT H))) (g2:p0[33]?=some (.sl 5 (zT T))) (kd:Int) (k:List (List V)→Option β) :
  yb β L p0 (zam ls) kd k=k (zed (zpq H T ls kd)):=by
 simp only [yb,zin,zeg]
 have e0:([]:List (List V))=zed []:=rfl
 rw [e0,zpq]
 by_cases h2:kd=2
 ·rw [if_pos h2,if_pos h2,zdk g2,zBY L ls hl hL T hT hTL [] (by simp),zdk g1,zBY L ls hl hL H hH hHL _ (by have:=zzc ls T; simp; omega),zH4,List.nil_append]
 ·rw [if_neg h2,if_neg h2]
  by_cases h3:kd=3
  ·rw [if_pos h3,if_pos h3,zdk g1,zBY L ls hl hL H hH hHL [] (by simp),List.nil_append]
  ·rw [if_neg h3,if_neg h3]
end
section
set_option linter.unusedVariables false
set_option linter.unusedSimpArgs false
variable {β:Type}
structure Bk where
 salt:List Int
 H:List Plc
 T:List Plc
 hs:salt.length=32
def Bk.v (b:Bk):List V:=row .u8 b.salt++[.sl 5 (zT b.H),.sl 5 (zT b.T)]
theorem Bk.len (b:Bk):b.v.length=34:=by simp [Bk.v,zcD,b.hs]
theorem Bk.take (b:Bk):List.take 34 b.v=b.v:=List.take_of_length_le (by rw [b.len]; exact Nat.le_refl _)
theorem zJV (k:IntKind) (l:List Int):(row k l).map V.dem=row k l:=by simp [row,V.dem]
theorem Bk.dem (b:Bk):List.map V.dem b.v=b.v:=by
 rw [Bk.v,List.map_append,zJV]; rfl
theorem Bk.g32 (b:Bk):b.v[32]?=some (.sl 5 (zT b.H)):=by
 rw [Bk.v,List.getElem?_append_right (by rw [zcD,b.hs]; omega),zcD,b.hs]; rfl
theorem Bk.g33 (b:Bk):b.v[33]?=some (.sl 5 (zT b.T)):=by
 rw [Bk.v,List.getElem?_append_right (by rw [zcD,b.hs]; omega),zcD,b.hs]; rfl
def Lnk0:Lnk:=⟨0,⟨0,0,0⟩⟩
def zzZ (c:List Adr) (draw:Int):Adr:=c.getD (Int.tmod draw (c.length:Int)).toNat ⟨0,0,0⟩
def ztP (b:Bk) (ls:List Lnk) (kd draw:Int):Lnk × Int :=
 if zpq b.H b.T ls kd=[] then (Lnk0,390) else (⟨kd,zzZ (zpq b.H b.T ls kd) draw⟩,0)
theorem zEg (c:List Adr) (hc:c.length≤4000000) (draw:Int) (hd:0≤draw) (A:Option β) (G:List V→Option β) :
  ifb ((((zed c).length:Nat):Int) == 0) A (lt (IntKind.wrap .u64 (((zed c).length:Nat):Int)) fun x=>chk (x≠0) (lt (Int.tmod draw x) fun y=>idx (zed c) y fun e=>G e))=if c=[] then A else G (zzZ c draw).v:=by
 rw [zeg,zzv]
 by_cases h:c=[]
 ·subst h; rfl
 ·have hpos:0 < c.length:=List.length_pos_iff.2 h
  rw [if_neg (by omega),if_neg h]
  simp only [zB]
  rw [zEp (by omega) (by omega),ze (by omega)]
  have e:Int.tmod draw (c.length:Int)=((Int.tmod draw (c.length:Int)).toNat:Int):=by
   rw [Int.toNat_of_nonneg (Int.tmod_nonneg _ hd)]
  have hlt:(Int.tmod draw (c.length:Int)).toNat < c.length:=by
   have:=Int.tmod_lt_of_pos draw (b:=(c.length:Int)) (by omega)
   have:=Int.tmod_nonneg (c.length:Int) hd
   omega
  rw [e,zaB (zEz hlt),zzZ,List.getD_eq_getElem?_getD,List.getElem?_eq_getElem hlt]
  rfl
def zb2 (ls:List Lnk):List Adr→Option Adr
 | []=>none
 | a::l=>if tkn ls a then zb2 ls l else some a
def zrj (b:Bk) (ls:List Lnk) (draw:Int):Lnk × Int :=
 if (ls.length:Int) - (cnt 3 ls:Int) ≥ 7 then (if (cnt 3 ls:Int) > 0 then (Lnk0,380) else ztP b ls 3 draw) else ztP b ls 2 draw
def zfv (bs:Bool) (b:Bk) (an:List Adr) (ls:List Lnk) (draw:Int):Lnk × Int :=
 if ziG ls=false then (Lnk0,6) else if bs=false then (Lnk0,6) else if 8≤ls.length then (Lnk0,380) else
 if cnt 1 ls < 2 then (match zb2 ls an with | some a=>(⟨1,a⟩,0) | none=>zrj b ls draw) else zrj b ls draw
def zGw (k:List V→Int→Option β) (r:Lnk × Int):Option β:=k r.1.v r.2
theorem zCJ (b:Bk) (ls:List Lnk) (kd:Int) (hH:b.H.length≤1000000) (hT:b.T.length≤1000000):(zpq b.H b.T ls kd).length≤4000000:=by
 unfold zpq
 split
 ·have:=zzc ls (b.T++b.H); rw [List.length_append] at this; omega
 ·split
  ·have:=zzc ls b.H; omega
  ·simp
theorem zKl (kd:Int) (a:Adr) (k:List V→Int→Option β):(chk ((List.length (List.take 3 a.v))=3∧1+3≤4) (
 chk ((List.length (zh [(V.sc (.int .i64 kd)),(V.sc (.int .u32 (0:Int))),(V.sc (.int .u16 (0:Int))),(V.sc (.int .u32 (0:Int)))] 1 (List.take 3 a.v)))=4∧0+4≤4) (
 lt (zh [(V.sc (.int .i64 (0:Int))),(V.sc (.int .u32 (0:Int))),(V.sc (.int .u16 (0:Int))),(V.sc (.int .u32 (0:Int)))] 0 (zh [(V.sc (.int .i64 kd)),(V.sc (.int .u32 (0:Int))),(V.sc (.int .u16 (0:Int))),(V.sc (.int .u32 (0:Int)))] 1 (List.take 3 a.v))) fun r14 =>
 chk (0=0∧(List.length r14)=4∧4≠0) (
 k r14 (0:Int)))))=k (⟨kd,a⟩:Lnk).v 0:=by
 rw [ze ⟨rfl,by omega⟩,ze ⟨rfl,by omega⟩,zB,ze ⟨rfl,rfl,by omega⟩]
 rfl
theorem zBz (e:Int) (k:List V→Int→Option β):(lt [(V.sc (.int .i64 (0:Int))),(V.sc (.int .u32 (0:Int))),(V.sc (.int .u16 (0:Int))),(V.sc (.int .u32 (0:Int)))] fun r1 =>
 chk (0=0∧(List.length r1)=4∧4≠0) (k r1 e))=k Lnk0.v e:=by
 rw [zB,ze ⟨rfl,rfl,by omega⟩]; rfl
theorem zIQ (L:Nat) (b:Bk) (hH:b.H.length≤1000000) (hT:b.T.length≤1000000) (hL:2000000 < L) (ls:List Lnk) (hl:ls.length≤1000000) (draw:Int) (hd:0≤draw) (k:List V→Int→Option β) :
  zce xb yl zn zk yb xa L (zam ls) draw b.v 0 0 0 0 k=zGw k (zrj b ls draw):=by
 have hc:=zDW 3 ls
 unfold zce
 rw [zFJ L ls hl (by omega),zB,zdn,zai (by omega) (by omega),zaA,zrj]
 by_cases h7:(ls.length:Int) - (cnt 3 ls:Int) ≥ 7
 ·rw [if_pos h7,if_pos h7,zaA]
  by_cases hf:(cnt 3 ls:Int) > 0
  ·rw [if_pos hf,if_pos hf,zBz]; rfl
  ·rw [if_neg hf,if_neg hf,ze (by rw [b.len]; omega),b.take,b.dem,zHP L ls hl (by omega) b.v b.H b.T hH hT (by omega) (by omega) b.g32 b.g33]
   refine (zEg _ (zCJ b ls 3 hH hT) draw hd _ _).trans ?_
   rw [ztP]
   by_cases h:zpq b.H b.T ls 3=[]
   ·rw [if_pos h,if_pos h,zBz]; rfl
   ·rw [if_neg h,if_neg h,zKl]; rfl
 ·rw [if_neg h7,if_neg h7,ze (by rw [b.len]; omega),b.take,b.dem,zHP L ls hl (by omega) b.v b.H b.T hH hT (by omega) (by omega) b.g32 b.g33]
  refine (zEg _ (zCJ b ls 2 hH hT) draw hd _ _).trans ?_
  rw [ztP]
  by_cases h:zpq b.H b.T ls 2=[]
  ·rw [if_pos h,if_pos h,zBz]; rfl
  ·rw [if_neg h,if_neg h,zKl]; rfl
theorem zEO (L:Nat) (b:Bk) (ls:List Lnk) (hl:ls.length≤1000000) (hL:ls.length < L) (an:List Adr) (ha:an.length≤1000000) (draw:Int) (kr:Int→List V→Option β) (kx:zjU β) :
  ∀ (m i:Nat),i≤an.length→an.length - i < m→zct xb yl zn zk yb xa L kr kx m (zam ls) draw (zed an) ((an.length:Nat):Int) (i:Int) b.v 0 0 0 0 =
   match zb2 ls (an.drop i) with | some a=>kr 0 (⟨1,a⟩:Lnk).v | none=>kx (zam ls) draw b.v 0 0 0 0
 | 0,i,h1,h2=>by omega
 | m+1,i,h1,h2=>by
  simp only [zct,zfI,zB]
  by_cases h:i < an.length
  ·have e1:List.take 3 an[i].v=an[i].v:=rfl
   have e2:zh [(V.sc (.int .u32 (0:Int))),(V.sc (.int .u16 (0:Int))),(V.sc (.int .u32 (0:Int)))] 0 an[i].v=an[i].v:=zdq rfl
   rw [zaz (by omega),zaB (zEz h),e1,ze ⟨rfl,by omega⟩,e2,ze (by show 0+3≤3; omega),e1,zsH L ls hl hL,List.drop_eq_getElem_cons h,zb2]
   cases hb:tkn ls an[i] with
   | true=>rw [Bool.not_true,zaL,zac (by omega),zEO L b ls hl hL an ha draw kr kx m (i+1) (by omega) (by omega),if_pos rfl]
   | false =>
    rw [Bool.not_false,ze0,ze (by show 0+3≤3; omega),ze ⟨rfl,by omega⟩,ze ⟨rfl,by omega⟩,if_neg (by simp)]
    rfl
  ·rw [zaT (by omega),List.drop_of_length_le (by omega)]
   rfl
theorem zJM (L:Nat) (b:Bk) (hH:b.H.length≤1000000) (hT:b.T.length≤1000000) (hL:2000000 < L) (bs:Bool) (hB:∀ k:Bool→Option β,yl β L b.v k=k bs) (an:List Adr) (ha:an.length≤1000000) (ls:List Lnk) (hl:ls.length≤1000000) (draw:Int) (hd:0≤draw) (k:List V→Int→Option β) :
  yc β L b.v (zed an) (zam ls) draw k=zGw k (zfv bs b an ls draw):=by
 unfold yc zh5 zmm
 rw [zwI L ls (by omega),zfv]
 cases hs:ziG ls with
 | false=>rw [Bool.not_false,ze0,zBz,if_pos rfl]; rfl
 | true =>
  rw [Bool.not_true,zaL,ze (by rw [b.len]; omega),b.take,b.dem,hB,if_neg (show ¬ ((true:Bool)=false) by simp)]
  cases bs with
  | false=>rw [Bool.not_false,ze0,zBz,if_pos rfl]; rfl
  | true =>
   rw [Bool.not_true,zaL,zaA,if_neg (show ¬ ((true:Bool)=false) by simp),zdn]
   by_cases h8:8≤ls.length
   ·rw [if_pos (by omega),if_pos h8,zBz]; rfl
   ·rw [if_neg (by omega),if_neg h8,zIy L ls hl (by omega),zaA]
    by_cases h2:cnt 1 ls < 2
    ·rw [if_pos (by omega),if_pos h2,zzv,show ((0:Int))=((0:Nat):Int) from rfl]
     refine (zEO L b ls hl (by omega) an ha draw _ _ L 0 (by omega) (by omega)).trans ?_
     rw [List.drop_zero]
     cases zb2 ls an with
     | some a=>unfold zez; exact ze ⟨rfl,rfl,by omega⟩ _
     | none=>exact zIQ L b hH hT hL ls hl draw hd k
    ·rw [if_neg (by omega),if_neg h2]
     have:=zIQ (β:=β) L b hH hT hL ls hl draw hd k
     unfold zce at this
     rw [zdn,b.take,b.dem] at this
     exact this
end
section
set_option linter.unusedVariables false
set_option linter.unusedSimpArgs false
set_option maxRecDepth 100000
variable {β:Type}
def le4 (x:Int):List Int:=[IntKind.wrap .u8 (zo0 .u64 x 0),IntKind.wrap .u8 (zo0 .u64 x 8),IntKind.wrap .u8 (zo0 .u64 x 16),IntKind.wrap .u8 (zo0 .u64 x 24)]
def le2 (x:Int):List Int:=[IntKind.wrap .u8 (zo0 .u64 x 0),IntKind.wrap .u8 (zo0 .u64 x 8)]
theorem zKR (L:Nat) (x:Int) (k:List (List V)→Option β):xG β (L+10) x 4 k=k (za0 .u8 (le4 x)):=by kernel_rfl
theorem zKO (L:Nat) (x:Int) (k:List (List V)→Option β):xG β (L+10) x 2 k=k (za0 .u8 (le2 x)):=by kernel_rfl
theorem zKS (L:Nat) (x:Int) (k:List (List V)→Option β):yG β (L+10) x 4 k=k (za0 .u8 (le4 x)):=by kernel_rfl
theorem zKP (L:Nat) (x:Int) (k:List (List V)→Option β):yG β (L+10) x 2 k=k (za0 .u8 (le2 x)):=by kernel_rfl
theorem zHu (L:Nat) (l m:List Int) (hl:l.length≤1000) (hm:m.length≤1000) (k:List (List V)→Option β):yH β L (za0 .u8 l) (za0 .u8 m) k=k (za0 .u8 (l++m)):=by
 simp only [yH,zoB,zB,ze4,List.replicate_zero,List.length_nil,Nat.zero_add,List.nil_append]
 rw [zai (by omega) (by omega),ze ⟨by omega,by omega,by simp only [zt]; omega,by simp only [zt]; omega⟩,ze ⟨by simp only [zt]; omega,by simp only [zt]; omega⟩,ze ⟨by simp only [zt]; omega,by simp only [zt]; omega⟩,zEq]
theorem zFm (L:Nat) (l m:List Int) (hl:l.length≤1000) (hm:m.length≤1000) (k:List (List V)→Option β):zH β L (za0 .u8 l) (za0 .u8 m) k=k (za0 .u8 (l++m)):=by
 simp only [zH,zoT,zB,ze4,List.replicate_zero,List.length_nil,Nat.zero_add,List.nil_append]
 rw [zai (by omega) (by omega),ze ⟨by omega,by omega,by simp only [zt]; omega,by simp only [zt]; omega⟩,ze ⟨by simp only [zt]; omega,by simp only [zt]; omega⟩,ze ⟨by simp only [zt]; omega,by simp only [zt]; omega⟩,zEq]
def w64 (x:Int):Int:=IntKind.wrap .u64 x
theorem zzI (L:Nat) (l:List Int) (hl:l.length≤900) (x:Int) (k:List (List V)→Option β):yx β (L+10) (za0 .u8 l) x k=k (za0 .u8 (l++le4 (w64 x))):=by
 simp only [yx,zk3,zB]
 rw [zKR,zHu _ _ _ (by omega) (by simp [le4])]; rfl
theorem zKQ (L:Nat) (l:List Int) (hl:l.length≤900) (x:Int) (k:List (List V)→Option β):zS β (L+10) (za0 .u8 l) x k=k (za0 .u8 (l++le2 (w64 x))):=by
 simp only [zS,zli,zB]
 rw [zKO,zHu _ _ _ (by omega) (by simp [le2])]; rfl
theorem zvb (L:Nat) (l:List Int) (hl:l.length≤900) (x:Int) (k:List (List V)→Option β):xx β (L+10) (za0 .u8 l) x k=k (za0 .u8 (l++le4 (w64 x))):=by
 simp only [xx,zlh,zB]
 rw [zKS,zFm _ _ _ (by omega) (by simp [le4])]; rfl
theorem zKp (L:Nat) (l:List Int) (hl:l.length≤900) (x:Int) (k:List (List V)→Option β):yS β (L+10) (za0 .u8 l) x k=k (za0 .u8 (l++le2 (w64 x))):=by
 simp only [yS,zlt,zB]
 rw [zKP,zFm _ _ _ (by omega) (by simp [le2])]; rfl
end
section
set_option linter.unusedVariables false
set_option linter.unusedSimpArgs false
set_option maxRecDepth 100000
variable {β:Type}
def zGf (s:List Int):Int:=zjx 0 0 (s.take 8)
def zGa (s:List Int):Int:=zjx 0 0 ((s.drop 8).take 8)
def bkt (s:List Int) (m1:List Int) (m2:Int→List Int):Int :=
 IntKind.wrap .i64 (Int.tmod (zqW (zGf s) (zGa s) (m2 (IntKind.wrap .u32 (Int.tmod (zqW (zGf s) (zGa s) m1) 4)))) 64)
def hbk (s:List Int) (a:Adr) (src:Int):Int:=bkt s ([2]++le4 (w64 (grp a))++le4 (w64 src)) (fun x=>[1]++le4 (w64 src)++le4 (w64 x))
def tbk (s:List Int) (a:Adr):Int:=bkt s ([4]++le4 (w64 a.h)++le2 (w64 a.p)) (fun x=>[3]++le4 (w64 (grp a))++le4 (w64 x))
theorem zDE (n:Int):zl 1 1 [(V.sc (.int .u8 n))]=za0 .u8 [n]:=rfl
theorem zDy (x y:Int):zh [(V.sc (.int .u64 (0:Int))),(V.sc (.int .u64 (0:Int)))] 0 (row .u64 [x,y])=row .u64 [x,y]:=rfl
theorem zAV (x y:Int):List.take 2 (row .u64 [x,y])=row .u64 [x,y]:=rfl
theorem zjK (a:Adr):List.take 3 a.v=a.v:=rfl
theorem zrf {s:List Int} (h:s.length=32):List.take 32 (row .u8 s)=row .u8 s:=List.take_of_length_le (by rw [zcD,h]; exact Nat.le_refl _)
theorem zKE (L:Nat) (s:List Int) (hs:s.length=32) (a:Adr) (src:Int) (k:Int→Option β):zI β (L+100) (row .u8 s) a.v src k=k (hbk s a src):=by
 simp only [zI,zg8,zrf hs,zjK,zB,zDE]
 rw [ze (by rw [zcD,hs]; omega),(zAa (β:=β) (L+100) (by omega) s hs _).1,ze ⟨rfl,by omega⟩,zDy,ze (by show 0+2≤2; omega),ze (by show 0+3≤3; omega),zoQ,show L+100=(L+90)+10 from rfl,zzI _ _ (by simp),zzI _ _ (by simp [le4]),zAV,zx0 _ _ _ _ (by simp [le4]) (by simp [le4]),zzI _ _ (by simp),zzI _ _ (by simp [le4]),ze (by show 0+2≤2; omega),zx0 _ _ _ _ (by simp [le4]) (by simp [le4])]
 rfl
theorem zIP (L:Nat) (s:List Int) (hs:s.length=32) (a:Adr) (src:Int) (k:Int→Option β):zb β (L+100) (row .u8 s) a.v src k=k (hbk s a src):=by
 simp only [zb,zi1,zrf hs,zjK,zB,zDE]
 rw [ze (by rw [zcD,hs]; omega),(zAa (β:=β) (L+100) (by omega) s hs _).2,ze ⟨rfl,by omega⟩,zDy,ze (by show 0+2≤2; omega),ze (by show 0+3≤3; omega),zzk,show L+100=(L+90)+10 from rfl,zvb _ _ (by simp),zvb _ _ (by simp [le4]),zAV,zxV _ _ _ _ (by simp [le4]) (by simp [le4]),ze (by show 0+2≤2; omega),zvb _ _ (by simp),zvb _ _ (by simp [le4]),zxV _ _ _ _ (by simp [le4]) (by simp [le4])]
 rfl
theorem zKD (L:Nat) (s:List Int) (hs:s.length=32) (a:Adr) (k:Int→Option β):xH β (L+100) (row .u8 s) a.v k=k (tbk s a):=by
 simp only [xH,zg2,zrf hs,zjK,zB,zDE]
 rw [ze (by rw [zcD,hs]; omega),(zAa (β:=β) (L+100) (by omega) s hs _).1,ze ⟨rfl,by omega⟩,zDy,ze (by show 0+2≤2; omega),yI (n:=a.h) rfl,show L+100=(L+90)+10 from rfl,zzI _ _ (by simp),yI (n:=a.p) rfl,zKQ _ _ (by simp [le4]),zAV,zx0 _ _ _ _ (by simp [le4,le2]) (by simp [le4,le2]),ze (by show 0+3≤3; omega),zoQ,zzI _ _ (by simp),zzI _ _ (by simp [le4]),ze (by show 0+2≤2; omega),zx0 _ _ _ _ (by simp [le4]) (by simp [le4])]
 rfl
theorem zGG (L:Nat) (s:List Int) (hs:s.length=32) (a:Adr) (k:Int→Option β):xf β (L+100) (row .u8 s) a.v k=k (tbk s a):=by
 simp only [xf,ziX,zrf hs,zjK,zB,zDE]
 rw [ze (by rw [zcD,hs]; omega),(zAa (β:=β) (L+100) (by omega) s hs _).2,ze ⟨rfl,by omega⟩,zDy,ze (by show 0+2≤2; omega),yI (n:=a.h) rfl,show L+100=(L+90)+10 from rfl,zvb _ _ (by simp),yI (n:=a.p) rfl,zKp _ _ (by simp [le4]),zAV,zxV _ _ _ _ (by simp [le4,le2]) (by simp [le4,le2]),ze (by show 0+2≤2; omega),ze (by show 0+3≤3; omega),zzk,zvb _ _ (by simp),zvb _ _ (by simp [le4]),zxV _ _ _ _ (by simp [le4]) (by simp [le4])]
 rfl
end
section
set_option linter.unusedVariables false
set_option linter.unusedSimpArgs false
variable {β:Type}
def zL (a b:Adr):Bool:=a.h == b.h && a.p == b.p
theorem zFy (L:Nat) (a b:Adr) (k:Bool→Option β):xg β L a.v b.v k=k (zL a b):=by
 simp only [xg,zrT]
 rw [yI (n:=a.h) rfl,yI (n:=b.h) rfl,zeg]
 by_cases h:a.h=b.h
 ·rw [if_pos h,yI (n:=a.p) rfl,yI (n:=b.p) rfl,zL,h]
  congr 1
  simp
 ·rw [if_neg h,zL,beq_eq_false_iff_ne.2 h]; rfl
theorem zCN (L:Nat) (ps:List Plc) (hp:ps.length≤1000000) (a:Adr) (k:Int→Option β):∀ (m i:Nat),i≤ps.length→ps.length - i < m →
  zfO xg L k (k (-1)) m (zT ps) (i:Int) a.v=k (ze2 (fun e=>zL e.a a) (ps.drop i) i)
 | 0,i,h1,h2=>by omega
 | m+1,i,h1,h2=>by
  simp only [zfO,zme,zB,zag]
  by_cases h:i < ps.length
  ·have e1:List.take 3 (List.drop 1 ps[i].v)=ps[i].a.v:=rfl
   rw [zaz (by omega),zaB (zcJ h),ze (by show 0+3≤3; omega),e1,zjK,zFy,zac (by omega),zCN L ps hp a k m (i+1) (by omega) (by omega),List.drop_eq_getElem_cons h,ze2]
   cases zL ps[i].a a <;> rfl
  ·rw [zaT (by omega),List.drop_of_length_le (by omega)]; rfl
theorem zBq (L:Nat) (ps:List Plc) (hp:ps.length≤1000000) (hL:ps.length < L) (a:Adr) (k:Int→Option β):ye β L (zT ps) a.v k=k (ze2 (fun e=>zL e.a a) ps 0):=by
 simp only [ye,znR,zsh]
 rw [show ((0:Int))=((0:Nat):Int) from rfl]
 exact zCN L ps hp a k L 0 (by omega) (by omega)
end
section
set_option linter.unusedVariables false
set_option linter.unusedSimpArgs false
variable {β:Type}
def full (l:List Plc) (i:Nat) (v:Int):Bool:=match l[i - 8]? with
 | some e=>decide (8≤i) && e.b == v
 | none=>false
def zk8 (l:List Plc) (i:Nat) (v:Int):Bool:=match l[i - 1]? with
 | some e=>decide (0 < i) && decide (e.b > v)
 | none=>false
def zpg (l:List Plc) (i:Nat):Bool:=match l[i]? with
 | some e=>ze2 (fun x=>zL x.a e.a) l 0 == (i:Int)
 | none=>true
def zpW (bk:Plc→Int) (l:List Plc) (i:Nat):Bool:=match l[i]? with
 | some e=>e.b == bk e && !(zk8 l i (bk e)) && !(full l i (bk e)) && zpg l i
 | none=>true
def zmN (p:Nat→Bool):Nat→Nat→Bool
 | _,0=>true
 | i,n+1=>p i && zmN p (i+1) n
def zeJ (bk:Plc→Int) (l:List Plc):Bool:=decide (l.length≤512) && zmN (zpW bk l) 0 l.length
theorem zJa (L:Nat) (ps:List Plc) (hp:ps.length≤1000) (hL:ps.length < L) (i:Nat) (h:i < ps.length) (v:Int) (A:Option β) (K:Int→Option β) :
  (ifb (decide ((i:Int) ≥ (8:Int))) (
 lt (IntKind.wrap .i64 ((i:Int) - (8:Int))) fun x11 =>
 idx (zT ps) x11 fun c12 =>
 cI .i64 c12 0 fun v13 =>
 ifb ((v13:Int) == v) A (
 idx (zT ps) (i:Int) fun c14 =>
 ye β L (zT ps) (List.take 3 (List.drop 1 c14)) (fun v15 =>
 ifb ((v15:Int) != (i:Int)) A (
 lt (IntKind.wrap .i64 ((i:Int)+(1:Int))) fun x16 =>
 K x16)))) (
 idx (zT ps) (i:Int) fun c17 =>
 ye β L (zT ps) (List.take 3 (List.drop 1 c17)) (fun v18 =>
 ifb ((v18:Int) != (i:Int)) A (
 lt (IntKind.wrap .i64 ((i:Int)+(1:Int))) fun x19 =>
 K x19))))=ifb (!(full ps i v) && zpg ps i) (K ((i+1:Nat):Int)) A:=by
 have e1:List.take 3 (List.drop 1 ps[i].v)=ps[i].a.v:=rfl
 have key:(idx (zT ps) (i:Int) fun c17 =>
   ye β L (zT ps) (List.take 3 (List.drop 1 c17)) (fun v18 =>
   ifb ((v18:Int) != (i:Int)) A (
   lt (IntKind.wrap .i64 ((i:Int)+(1:Int))) fun x19=>K x19)))=ifb (zpg ps i) (K ((i+1:Nat):Int)) A:=by
  rw [zaB (zcJ h),e1,zBq L ps (by omega) hL,zB,zac (by omega),zpg,List.getElem?_eq_getElem h]
  simp only
  rw [zra,zeg]
 rw [key,zaA]
 by_cases h8:8≤i
 ·have g:ps[i - 8]?=some (ps[i - 8]'(by omega)):=List.getElem?_eq_getElem (by omega)
  have e8:IntKind.wrap .i64 ((i:Int) - 8)=((i - 8:Nat):Int):=by rw [zai (by omega) (by omega)]; omega
  rw [if_pos (by omega),zB,e8,zaB (zcJ (by omega)),yI (n:=(ps[i - 8]'(by omega)).b) rfl,full,g]
  simp only
  rw [decide_eq_true h8,Bool.true_and]
  cases ((ps[i - 8]'(by omega)).b == v) <;> rfl
 ·have e:full ps i v=false:=by
   unfold full
   rw [decide_eq_false h8]
   split <;> rfl
  rw [if_neg (by omega),e]
  rfl
theorem zHd (L:Nat) (ps:List Plc) (hp:ps.length≤1000) (hL:ps.length < L) (i:Nat) (h:i < ps.length) (v:Int) (A:Option β) (K:Int→Option β) :
  (idx (zT ps) (i:Int) fun c6 =>
 cI .i64 c6 0 fun v7 =>
 ifb ((v7:Int) != v) A (
 ifb (decide ((i:Int) > (0:Int))) (
 lt (IntKind.wrap .i64 ((i:Int) - (1:Int))) fun x8 =>
 idx (zT ps) x8 fun c9 =>
 cI .i64 c9 0 fun v10 =>
 ifb (decide (v10 > v)) A (
 ifb (decide ((i:Int) ≥ (8:Int))) (
 lt (IntKind.wrap .i64 ((i:Int) - (8:Int))) fun x11 =>
 idx (zT ps) x11 fun c12 =>
 cI .i64 c12 0 fun v13 =>
 ifb ((v13:Int) == v) A (
 idx (zT ps) (i:Int) fun c14 =>
 ye β L (zT ps) (List.take 3 (List.drop 1 c14)) (fun v15 =>
 ifb ((v15:Int) != (i:Int)) A (
 lt (IntKind.wrap .i64 ((i:Int)+(1:Int))) fun x16 =>
 K x16)))) (
 idx (zT ps) (i:Int) fun c17 =>
 ye β L (zT ps) (List.take 3 (List.drop 1 c17)) (fun v18 =>
 ifb ((v18:Int) != (i:Int)) A (
 lt (IntKind.wrap .i64 ((i:Int)+(1:Int))) fun x19 =>
 K x19))))) (
 ifb (decide ((i:Int) ≥ (8:Int))) (
 lt (IntKind.wrap .i64 ((i:Int) - (8:Int))) fun x11 =>
 idx (zT ps) x11 fun c12 =>
 cI .i64 c12 0 fun v13 =>
 ifb ((v13:Int) == v) A (
 idx (zT ps) (i:Int) fun c14 =>
 ye β L (zT ps) (List.take 3 (List.drop 1 c14)) (fun v15 =>
 ifb ((v15:Int) != (i:Int)) A (
 lt (IntKind.wrap .i64 ((i:Int)+(1:Int))) fun x16 =>
 K x16)))) (
 idx (zT ps) (i:Int) fun c17 =>
 ye β L (zT ps) (List.take 3 (List.drop 1 c17)) (fun v18 =>
 ifb ((v18:Int) != (i:Int)) A (
 lt (IntKind.wrap .i64 ((i:Int)+(1:Int))) fun x19 =>
 K x19))))))=ifb (ps[i].b == v && !(zk8 ps i v) && !(full ps i v) && zpg ps i) (K ((i+1:Nat):Int)) A:=by
 rw [zJa L ps hp hL i h,zaB (zcJ h),yI (n:=ps[i].b) rfl,zra]
 by_cases hb:ps[i].b=v
 ·rw [if_pos hb,hb,beq_self_eq_true,Bool.true_and,zaA]
  by_cases h0:0 < i
  ·have g:ps[i - 1]?=some (ps[i - 1]'(by omega)):=List.getElem?_eq_getElem (by omega)
   have e8:IntKind.wrap .i64 ((i:Int) - 1)=((i - 1:Nat):Int):=by rw [zai (by omega) (by omega)]; omega
   rw [if_pos (by omega),zB,e8,zaB (zcJ (by omega)),yI (n:=(ps[i - 1]'(by omega)).b) rfl,zk8,g]
   simp only
   rw [decide_eq_true h0,Bool.true_and]
   cases decide ((ps[i - 1]'(by omega)).b > v) <;> rfl
  ·have e:zk8 ps i v=false:=by
    unfold zk8
    rw [decide_eq_false h0]
    split <;> rfl
   rw [if_neg (by omega),e]
   rfl
 ·rw [if_neg hb,beq_eq_false_iff_ne.2 hb]
  rfl
end
section
set_option linter.unusedVariables false
set_option linter.unusedSimpArgs false
def zaV (v:Int) (l:List Plc):Nat:=(l.filter (fun x=>x.b == v)).length
def okS (bk:Plc→Int) (N:List Adr) (pre:List Plc) (e:Plc):Bool :=
 e.b == bk e && (pre.all (fun x=>decide (x.b≤e.b)) && (decide (zaV e.b pre≤7) && (!(pre.any (fun x=>zL x.a e.a)) && !(N.any (fun a=>zL a e.a)))))
def okA (bk:Plc→Int) (N:List Adr):List Plc→List Plc→Bool
 | _,[]=>true
 | pre,e::l=>okS bk N pre e && okA bk N (pre++[e]) l
def Srt (l:List Plc):Prop:=l.Pairwise (fun x y=>x.b≤y.b)
theorem zHy {bk:Plc→Int} {N:List Adr} {pre:List Plc} {e:Plc} (h:okS bk N pre e=true):∀ x ∈ pre,x.b≤e.b:=by
 simp only [okS,Bool.and_eq_true,List.all_eq_true,decide_eq_true_eq] at h
 exact h.2.1
theorem Srt.snoc {pre:List Plc} {e:Plc} (h:Srt pre) (he:∀ x ∈ pre,x.b≤e.b):Srt (pre++[e]):=by
 unfold Srt at *
 rw [List.pairwise_append]
 exact ⟨h,by simp,fun x hx y hy=>by simp at hy; subst hy; exact he x hx⟩
theorem Srt.split:∀ {l:List Plc} (v:Int),Srt l→(∀ x ∈ l,x.b≤v)→∃ A B:List Plc,l=A++B∧(∀ x ∈ A,x.b < v)∧(∀ x ∈ B,x.b=v)
 | [],v,_,_=>⟨[],[],rfl,by simp,by simp⟩
 | x::l,v,h,hv=>by
  have h':=List.pairwise_cons.1 h
  obtain ⟨A,B,rfl,hA,hB⟩:=Srt.split v h'.2 (fun y hy=>hv y (by simp [hy]))
  by_cases hx:x.b < v
  ·exact ⟨x::A,B,rfl,by simpa using ⟨hx,hA⟩,hB⟩
  ·have hxv:x.b=v:=by have:=hv x (by simp); omega
   have:A=[]:=by
    cases A with
    | nil=>rfl
    | cons a A =>
     have h1:=hA a (by simp)
     have h2:=h'.1 a (by simp)
     omega
   subst this
   exact ⟨[],x::B,rfl,by simp,by simpa using ⟨hxv,hB⟩⟩
theorem zGg {A B:List Plc} {v:Int} (hA:∀ x ∈ A,x.b < v) (hB:∀ x ∈ B,x.b=v):zaV v (A++B)=B.length:=by
 unfold zaV
 rw [List.filter_append,List.filter_eq_nil_iff.2 (fun x hx=>by have:=hA x hx; simp; omega),List.filter_eq_self.2 (fun x hx=>by simp [hB x hx])]
 rfl
theorem zEY {l:List Plc} (h:Srt l) (v:Int) (i:Nat) (hi:i < l.length):(l.take i).all (fun x=>decide (x.b≤v))=!(zk8 l i v):=by
 unfold zk8
 cases i with
 | zero=>cases hl:l[0 - 1]? <;> simp
 | succ i =>
  rw [Nat.add_sub_cancel,List.getElem?_eq_getElem (by omega)]
  simp only
  rw [Bool.eq_iff_iff]
  simp only [List.all_eq_true,decide_eq_true_eq,Bool.not_eq_true',Bool.and_eq_false_imp,decide_eq_false_iff_not]
  constructor
  ·intro H _ hgt
   have:=H l[i] (List.mem_take_iff_getElem.2 ⟨i,by omega,rfl⟩)
   omega
  ·intro H x hx
   have H:=H (by omega)
   obtain ⟨j,hj,rfl⟩:=List.mem_take_iff_getElem.1 hx
   by_cases hji:j=i
   ·subst hji; omega
   ·have:=List.pairwise_iff_getElem.1 h j i (by omega) (by omega) (by omega)
    omega
theorem zJS {l:List Plc} {i:Nat} (hi:i < l.length) (v:Int) (h:Srt (l.take i)) (hv:∀ x ∈ l.take i,x.b≤v):full l i v=!(decide (zaV v (l.take i)≤7)):=by
 obtain ⟨A,B,hAB,hA,hB⟩:=h.split v hv
 rw [hAB,zGg hA hB]
 have hlen:i=A.length+B.length:=by
  have:=congrArg List.length hAB
  rw [List.length_take,List.length_append,Nat.min_eq_left (by omega)] at this
  exact this
 unfold full
 rw [List.getElem?_eq_getElem (by omega)]
 simp only
 by_cases h8:8≤i
 ·have e:l[i - 8]'(by omega)=(A++B)[i - 8]'(by rw [List.length_append]; omega):=by
   have:(l.take i)[i - 8]'(by rw [List.length_take]; omega)=l[i - 8]'(by omega):=List.getElem_take
   rw [← this]
   simp only [hAB]
  rw [decide_eq_true h8,Bool.true_and,e]
  by_cases h7:B.length≤7
  ·rw [decide_eq_true h7,List.getElem_append_left (by omega)]
   have:=hA (A[i - 8]'(by omega)) (List.getElem_mem _)
   rw [beq_eq_false_iff_ne.2 (by omega)]; rfl
  ·rw [decide_eq_false h7,List.getElem_append_right (by omega)]
   rw [hB _ (List.getElem_mem _),beq_self_eq_true]; rfl
 ·rw [decide_eq_false h8,Bool.false_and,decide_eq_true (by omega)]; rfl
theorem zuT (a:Adr):zL a a=true:=by simp [zL]
theorem zIJ {l:List Plc} {i:Nat} (hi:i < l.length):zpg l i=!((l.take i).any (fun x=>zL x.a l[i].a)):=by
 unfold zpg
 rw [List.getElem?_eq_getElem hi]
 simp only
 rcases zpB (fun x:Plc=>zL x.a l[i].a) l 0 with ⟨h1,h2⟩ | ⟨j,hj,h1,h2,h3⟩
 ·have:=h2 l[i] (List.getElem_mem hi)
  simp only [zuT] at this
  cases this
 ·rw [h1,Nat.zero_add]
  by_cases hij:j=i
  ·subst hij
   rw [beq_self_eq_true]
   have:(l.take j).any (fun x=>zL x.a l[j].a)=false:=by
    rw [List.any_eq_false]
    intro x hx; rw [h2 x hx]; simp
   rw [this]; rfl
  ·have hlt:j < i:=by
    rcases Nat.lt_or_gt_of_ne hij with h | h
    ·exact h
    ·have:=h2 l[i] (List.mem_take_iff_getElem.2 ⟨i,by omega,rfl⟩)
     simp only [zuT] at this
     cases this
   rw [beq_eq_false_iff_ne.2 (by omega)]
   have:(l.take i).any (fun x=>zL x.a l[i].a)=true:=List.any_eq_true.2 ⟨l[j],List.mem_take_iff_getElem.2 ⟨j,by omega,rfl⟩,h3⟩
   rw [this]; rfl
theorem zGY (bk:Plc→Int) {l:List Plc} {i:Nat} (hi:i < l.length) (h:Srt (l.take i)):zpW bk l i=okS bk [] (l.take i) l[i]:=by
 unfold zpW okS
 rw [List.getElem?_eq_getElem hi]
 simp only
 by_cases hb:l[i].b=bk l[i]
 ·rw [beq_iff_eq.2 hb,Bool.true_and,Bool.true_and,← hb,zIJ hi]
  have hl:(l.take i).all (fun x=>decide (x.b≤l[i].b))=!(zk8 (l.take i++[l[i]]) i l[i].b):=by
   by_cases ha:∀ x ∈ l.take i,x.b≤l[i].b
   ·rw [← zEY (h.snoc ha) _ i (by rw [List.length_append,List.length_take]; simp; omega),List.take_left' (by rw [List.length_take]; omega)]
   ·have e1:(l.take i).all (fun x=>decide (x.b≤l[i].b))=false:=by
     rw [Bool.eq_false_iff]
     intro hh
     apply ha
     intro x hx
     have:=List.all_eq_true.1 hh x hx
     simpa using this
    rw [e1]
    have hex:∃ x ∈ l.take i,l[i].b < x.b:=by
     apply Classical.byContradiction
     intro hn
     exact ha (fun x hx=>by
      apply Classical.byContradiction
      intro h2
      exact hn ⟨x,hx,by omega⟩)
    obtain ⟨x,hx,hlt⟩:=hex
    obtain ⟨j,hj,rfl⟩:=List.mem_take_iff_getElem.1 hx
    unfold zk8
    rw [List.getElem?_append_left (by rw [List.length_take]; omega),List.getElem?_take_of_lt (by omega),List.getElem?_eq_getElem (by omega)]
    simp only
    have:l[j].b≤(l[i - 1]'(by omega)).b:=by
     by_cases hji:j=i - 1
     ·subst hji; exact Int.le_refl _
     ·have:=List.pairwise_iff_getElem.1 h j (i - 1) (by rw [List.length_take]; omega) (by rw [List.length_take]; omega) (by omega)
      simpa using this
    rw [decide_eq_true (by omega:0 < i),decide_eq_true (by omega)]
    rfl
  have hl2:zk8 (l.take i++[l[i]]) i l[i].b=zk8 l i l[i].b:=by
   rw [← List.take_succ_eq_append_getElem hi]
   unfold zk8
   by_cases h0:0 < i
   ·rw [List.getElem?_take_of_lt (by omega)]
   ·rw [decide_eq_false h0]
    cases (List.take (i+1) l)[i - 1]? <;> cases l[i - 1]? <;> simp
  rw [hl2] at hl
  rw [hl]
  cases hless:zk8 l i l[i].b with
  | true=>rfl
  | false =>
   rw [hless] at hl
   have ha:∀ x ∈ l.take i,x.b≤l[i].b:=fun x hx=>by simpa using List.all_eq_true.1 hl x hx
   rw [zJS hi _ h ha]
   simp [Bool.and_assoc]
 ·rw [beq_eq_false_iff_ne.2 hb]; rfl
theorem zzX (bk:Plc→Int) (l:List Plc):∀ (n i:Nat),i+n=l.length→Srt (l.take i)→zmN (zpW bk l) i n=okA bk [] (l.take i) (l.drop i)
 | 0,i,h,hs=>by rw [List.drop_of_length_le (by omega)]; rfl
 | n+1,i,h,hs=>by
  rw [zmN,List.drop_eq_getElem_cons (by omega),okA,zGY bk (by omega) hs]
  cases ho:okS bk [] (l.take i) (l[i]'(by omega)) with
  | false=>rfl
  | true =>
   have hi:i < l.length:=by omega
   rw [Bool.true_and,Bool.true_and,zzX bk l n (i+1) (by omega) (by rw [List.take_succ_eq_append_getElem hi]; exact hs.snoc (zHy ho)),List.take_succ_eq_append_getElem hi]
theorem zqL (bk:Plc→Int) (l:List Plc):zeJ bk l=(decide (l.length≤512) && okA bk [] [] l):=by
 unfold zeJ
 rw [zzX bk l l.length 0 (by omega) (by simp [Srt])]
 rfl
structure TOk (bk:Plc→Int) (N:List Adr) (l:List Plc):Prop where
 b:∀ e ∈ l,e.b=bk e
 s:Srt l
 c:∀ v,zaV v l≤8
 n:l.Pairwise (fun x y=>zL x.a y.a=false)
 f:∀ e ∈ l,∀ a ∈ N,zL a e.a=false
theorem zhQ (v:Int) (pre:List Plc) (e:Plc):zaV v (pre++[e])=zaV v pre+if e.b=v then 1 else 0:=by
 unfold zaV
 rw [List.filter_append,List.length_append]
 by_cases h:e.b=v <;> simp [h]
theorem TOk.snoc (bk:Plc→Int) (N:List Adr) (pre:List Plc) (e:Plc):TOk bk N (pre++[e])↔TOk bk N pre∧okS bk N pre e=true:=by
 simp only [okS,Bool.and_eq_true,List.all_eq_true,decide_eq_true_eq,beq_iff_eq,Bool.not_eq_true',List.any_eq_false,Bool.not_eq_true]
 constructor
 ·intro h
  have hs:=List.pairwise_append.1 h.s
  have hn:=List.pairwise_append.1 h.n
  refine ⟨⟨fun x hx=>h.b x (by simp [hx]),hs.1,fun v=>?_,hn.1,fun x hx=>h.f x (by simp [hx])⟩,h.b e (by simp),fun x hx=>hs.2.2 x hx e (by simp),?_,fun x hx=>hn.2.2 x hx e (by simp),h.f e (by simp)⟩
  ·have:=h.c v; rw [zhQ] at this; omega
  ·have:=h.c e.b; rw [zhQ,if_pos rfl] at this; omega
 ·rintro ⟨h,h1,h2,h3,h4,h5⟩
  refine ⟨?_,h.s.snoc h2,fun v=>?_,?_,?_⟩
  ·intro x hx
   rcases List.mem_append.1 hx with hx | hx
   ·exact h.b x hx
   ·simp at hx; subst hx; exact h1
  ·rw [zhQ]
   split
   ·rename_i hv; subst hv; omega
   ·have:=h.c v; omega
  ·rw [List.pairwise_append]
   exact ⟨h.n,by simp,fun x hx y hy=>by simp at hy; subst hy; exact h4 x hx⟩
  ·intro x hx
   rcases List.mem_append.1 hx with hx | hx
   ·exact h.f x hx
   ·simp at hx; subst hx; exact h5
theorem TOk.nil (bk:Plc→Int) (N:List Adr):TOk bk N []:=⟨by simp,List.Pairwise.nil,by simp [zaV],List.Pairwise.nil,by simp⟩
theorem zBH (bk:Plc→Int) (N:List Adr):∀ (l pre:List Plc),TOk bk N pre→(okA bk N pre l=true↔TOk bk N (pre++l))
 | [],pre,h=>by simp [okA,h]
 | e::l,pre,h=>by
  rw [okA,Bool.and_eq_true,show pre++e::l=(pre++[e])++l by simp]
  constructor
  ·rintro ⟨h1,h2⟩
   exact (zBH bk N l (pre++[e]) ((TOk.snoc bk N pre e).2 ⟨h,h1⟩)).1 h2
  ·intro H
   have hp:TOk bk N (pre++[e]):=by
    have hs:=List.pairwise_append.1 H.s
    have hn:=List.pairwise_append.1 H.n
    refine ⟨fun x hx=>H.b x (List.mem_append_left _ hx),hs.1,fun v=>?_,hn.1,fun x hx=>H.f x (List.mem_append_left _ hx)⟩
    have:=H.c v
    unfold zaV at this ⊢
    rw [List.filter_append,List.length_append] at this
    omega
   exact ⟨((TOk.snoc bk N pre e).1 hp).2,(zBH bk N l (pre++[e]) hp).2 H⟩
end
section
set_option linter.unusedVariables false
set_option linter.unusedSimpArgs false
variable {β:Type}
theorem zCP (bk:Plc→Int) {l:List Plc} {i:Nat} (h:i < l.length):zpW bk l i=(l[i].b == bk l[i] && !(zk8 l i (bk l[i])) && !(full l i (bk l[i])) && zpg l i):=by
 unfold zpW; rw [List.getElem?_eq_getElem h]
theorem zGC (L:Nat) (s:List Int) (hs:s.length=32) (ps:List Plc) (hp:ps.length≤1000) (hL:ps.length < L) (k:Bool→Option β):∀ (m i:Nat),i≤ps.length→ps.length - i < m →
  zbn xf zb ye (L+100) k (k true) m (zT ps) true (i:Int) (row .u8 s)=k (zmN (zpW (fun e=>hbk s e.a e.s) ps) i (ps.length - i)):=by
 intro m
 induction m with
 | zero=>intro i h1 h2; omega
 | succ m IH =>
  intro i h1 h2
  unfold zbn zgq
  rw [zag]
  by_cases h:i < ps.length
  ·have e1:List.take 3 (List.drop 1 ps[i].v)=ps[i].a.v:=rfl
   have ih:=IH (i+1) (by omega) (by omega)
   have e4:ps.length - i=(ps.length - (i+1))+1:=by omega
   rw [zaz (by omega),zrf hs,ze (by rw [zcD,hs]; omega),zaB (zcJ h),e1,zGG L s hs]
   rw [e4,zmN,zCP _ h]
   rw [ze0,ze (by rw [zcD,hs]; omega),zaB (zcJ h),zaB (zcJ h),yI (n:=ps[i].s) rfl,e1,zIP L s hs]
   refine (zHd (L+100) ps hp (by omega) i h _ _ (fun x=>zbn xf zb ye (L+100) k (k true) m (zT ps) true x (row .u8 s))).trans ?_
   rw [ih]
   cases (ps[i].b == hbk s ps[i].a ps[i].s && !(zk8 ps i (hbk s ps[i].a ps[i].s)) && !(full ps i (hbk s ps[i].a ps[i].s)) && zpg ps i) <;> rfl
  ·rw [zaT (by omega),show ps.length - i=0 by omega]; rfl
theorem zFG (L:Nat) (s:List Int) (hs:s.length=32) (ps:List Plc) (hp:ps.length≤1000) (hL:ps.length < L) (k:Bool→Option β):∀ (m i:Nat),i≤ps.length→ps.length - i < m →
  zbn xf zb ye (L+100) k (k true) m (zT ps) false (i:Int) (row .u8 s)=k (zmN (zpW (fun e=>tbk s e.a) ps) i (ps.length - i)):=by
 intro m
 induction m with
 | zero=>intro i h1 h2; omega
 | succ m IH =>
  intro i h1 h2
  unfold zbn zgq
  rw [zag]
  by_cases h:i < ps.length
  ·have e1:List.take 3 (List.drop 1 ps[i].v)=ps[i].a.v:=rfl
   have ih:=IH (i+1) (by omega) (by omega)
   have e4:ps.length - i=(ps.length - (i+1))+1:=by omega
   rw [zaz (by omega),zrf hs,ze (by rw [zcD,hs]; omega),zaB (zcJ h),e1,zGG L s hs]
   rw [e4,zmN,zCP _ h]
   rw [zaL]
   refine (zHd (L+100) ps hp (by omega) i h _ _ (fun x=>zbn xf zb ye (L+100) k (k true) m (zT ps) false x (row .u8 s))).trans ?_
   rw [ih]
   cases (ps[i].b == tbk s ps[i].a && !(zk8 ps i (tbk s ps[i].a)) && !(full ps i (tbk s ps[i].a)) && zpg ps i) <;> rfl
  ·rw [zaT (by omega),show ps.length - i=0 by omega]; rfl
theorem zKu (L:Nat) (s:List Int) (hs:s.length=32) (ps:List Plc) (hp:ps.length≤1000) (hL:ps.length < L) (k:Bool→Option β) :
  yp β (L+100) (row .u8 s) (zT ps) true k=k (zeJ (fun e=>hbk s e.a e.s) ps):=by
 unfold yp ziJ zl1 zeJ
 rw [zag,zaA]
 by_cases h:ps.length≤512
 ·rw [if_neg (by omega),decide_eq_true h,Bool.true_and]
  refine (zGC L s hs ps hp hL k (L+100) 0 (by omega) (by omega)).trans ?_
  rw [Nat.sub_zero]
 ·rw [if_pos (by omega),decide_eq_false h]; rfl
theorem zKo (L:Nat) (s:List Int) (hs:s.length=32) (ps:List Plc) (hp:ps.length≤1000) (hL:ps.length < L) (k:Bool→Option β) :
  yp β (L+100) (row .u8 s) (zT ps) false k=k (zeJ (fun e=>tbk s e.a) ps):=by
 unfold yp ziJ zl1 zeJ
 rw [zag,zaA]
 by_cases h:ps.length≤512
 ·rw [if_neg (by omega),decide_eq_true h,Bool.true_and]
  refine (zFG L s hs ps hp hL k (L+100) 0 (by omega) (by omega)).trans ?_
  rw [Nat.sub_zero]
 ·rw [if_pos (by omega),decide_eq_false h]; rfl
def hbf (s:List Int) (e:Plc):Int:=hbk s e.a e.s
def tbf (s:List Int) (e:Plc):Int:=tbk s e.a
def zrg (b:Bk):Bool:=zeJ (hbf b.salt) b.H && (zeJ (tbf b.salt) b.T && b.H.all (fun e=>!(b.T.any (fun x=>zL x.a e.a))))
theorem zI4 (L:Nat) (b:Bk) (hH:b.H.length≤1000) (hT:b.T.length≤1000) (hL:b.T.length < L) (k:Bool→Option β):∀ (m i:Nat),i≤b.H.length→b.H.length - i < m →
  zeE yp ye L k (k true) m (i:Int) b.v=k ((b.H.drop i).all (fun e=>!(b.T.any (fun x=>zL x.a e.a)))):=by
 intro m
 induction m with
 | zero=>intro i h1 h2; omega
 | succ m IH =>
  intro i h1 h2
  unfold zeE zke
  rw [zdk b.g32,zag]
  by_cases h:i < b.H.length
  ·have e1:List.take 3 (List.drop 1 b.H[i].v)=b.H[i].a.v:=rfl
   rw [zaz (by omega),zdk b.g33,zdk b.g32,zaB (zcJ h),e1,zBq L b.T (by omega) hL,zFn,List.drop_eq_getElem_cons h,List.all_cons,zB,zac (by omega)]
   have ih:=IH (i+1) (by omega) (by omega)
   cases (b.T.any fun x=>zL x.a b.H[i].a) with
   | true=>rfl
   | false=>exact ih
  ·rw [zaT (by omega),List.drop_of_length_le (by omega)]; rfl
theorem Bk.t32 (b:Bk):List.take 32 b.v=row .u8 b.salt:=by
 rw [Bk.v,List.take_left' (by rw [zcD,b.hs])]
theorem zGW (L:Nat) (b:Bk) (hH:b.H.length≤1000) (hT:b.T.length≤1000) (hL:1000 < L) (k:Bool→Option β):xw β (L+100) b.v k=k (zrg b):=by
 unfold xw zlZ zqa zrg
 rw [ze (by rw [b.len]; omega),zdk b.g32,b.t32,zKu L b.salt b.hs b.H hH (by omega)]
 have eH:zeJ (fun e=>hbk b.salt e.a e.s) b.H=zeJ (hbf b.salt) b.H:=rfl
 have eT:zeJ (fun e=>tbk b.salt e.a) b.T=zeJ (tbf b.salt) b.T:=rfl
 rw [eH]
 cases zeJ (hbf b.salt) b.H with
 | false=>rfl
 | true =>
  rw [Bool.not_true,zaL,ze (by rw [b.len]; omega),zdk b.g33,zKo L b.salt b.hs b.T hT (by omega),eT]
  cases zeJ (tbf b.salt) b.T with
  | false=>rfl
  | true =>
   rw [Bool.not_true,zaL]
   exact zI4 (L+100) b hH hT (by omega) k (L+100) 0 (by omega) (by omega)
end
section
set_option linter.unusedVariables false
set_option linter.unusedSimpArgs false
variable {β:Type}
theorem zGz (n:Int):0≤IntKind.wrap .u64 n∧IntKind.wrap .u64 n≤18446744073709551615:=by
 unfold IntKind.wrap
 simp only [IntKind.signed,Bool.false_and,Bool.false_eq_true,if_false,IntKind.bits]
 have h1:=Int.emod_nonneg n (show (2 ^ 64:Int)≠0 by decide)
 have h2:=Int.emod_lt_of_pos n (show (0:Int) < 2 ^ 64 by decide)
 omega
theorem zCr (s m1:List Int) (m2:Int→List Int):0≤bkt s m1 m2∧bkt s m1 m2 < 64:=by
 unfold bkt
 generalize hx:zqW (zGf s) (zGa s) (m2 (IntKind.wrap .u32 (Int.tmod (zqW (zGf s) (zGa s) m1) 4)))=x
 have h0:0≤x:=by
  rw [← hx]; unfold zqW zFQ zDG zbe; exact (zGz _).1
 have h1:=Int.tmod_nonneg 64 h0
 have h2:=Int.tmod_lt_of_pos x (show (0:Int) < 64 by decide)
 rw [zai (by omega) (by omega)]
 exact ⟨h1,h2⟩
theorem zCq (s:List Int) (e:Plc):0≤hbf s e∧hbf s e < 64:=by unfold hbf hbk; exact zCr _ _ _
theorem zCw (s:List Int) (e:Plc):0≤tbf s e∧tbf s e < 64:=by unfold tbf tbk; exact zCr _ _ _
def nmv (a:Adr):V:=.agg [.sc (.int .u32 a.h),.sc (.int .u16 a.p)]
def zcZ (N:List Adr):List (V × V):=N.map fun a=>(nmv a,.sc (.bool true))
theorem zEN (a b:Adr):zjF (nmv a) (nmv b)=some (zL a b):=by
 simp [zjF,nmv,zgj,zL]
theorem ziD (a b:Adr):zL a b=zL b a:=by
 unfold zL; rw [Bool.beq_comm (a:=a.h),Bool.beq_comm (a:=a.p)]
theorem zy2 (a:Adr):∀ N:List Adr,zqD (nmv a) (zcZ N)=some (if N.any (fun x=>zL x a) then some (.sc (.bool true)) else none)
 | []=>rfl
 | x::N=>by
  have ih:=zy2 a N
  simp only [zcZ,List.map_cons,zqD,zEN,List.any_cons,ziD x a] at ih ⊢
  cases zL a x with
  | true=>rfl
  | false=>simpa using ih
theorem zAc (a:Adr):∀ N:List Adr,N.any (fun x=>zL x a)=false→zzq (nmv a) (.sc (.bool true)) (zcZ N)=some (zcZ (N++[a]))
 | [],_=>rfl
 | x::N,h=>by
  rw [List.any_cons,Bool.or_eq_false_iff,ziD] at h
  have ih:=zAc a N h.2
  simp only [zcZ,List.map_cons,zzq,zEN,h.1,List.cons_append] at ih ⊢
  rw [ih]; rfl
theorem zCE (a:Adr) (N:List Adr) (K:Bool→Option β):(mAt 4 (V.agg (List.take 2 [(V.sc (.int .u32 a.h)),(V.sc (.int .u16 a.p))])) (zcZ N) fun q=>aB (Option.getD q (V.sc (.bool false))) K)=K (N.any (fun x=>zL x a)):=by
 have e:V.agg (List.take 2 [(V.sc (.int .u32 a.h)),(V.sc (.int .u16 a.p))])=nmv a:=rfl
 rw [e]
 have h:zij 4 (nmv a)=true:=rfl
 simp only [mAt,h,zy2]
 cases N.any (fun x=>zL x a) <;> rfl
theorem zA1 {a:Adr} {N:List Adr} (h:N.any (fun x=>zL x a)=false) (K:List (V × V)→Option β):ztg 4 (V.agg (List.take 2 [(V.sc (.int .u32 a.h)),(V.sc (.int .u16 a.p))])) (V.sc (.bool true)) (zcZ N) K=K (zcZ (N++[a])):=by
 have e:V.agg (List.take 2 [(V.sc (.int .u32 a.h)),(V.sc (.int .u16 a.p))])=nmv a:=rfl
 rw [e]
 have h':zij 4 (nmv a)=true:=rfl
 simp only [ztg,h',zAc a N h]
theorem zKK (L:Nat) (b:Bk) (e:Plc) (k:Int→List V→Option β):zi β (L+100) e.v b.v k=k (hbf b.salt e) b.v:=by
 unfold zi zjR
 have e1:List.take 3 (List.drop 1 e.v)=e.a.v:=rfl
 rw [ze (by rw [b.len]; omega),ze (by show 1+3≤5; omega),yI (n:=e.s) rfl,b.t32,e1,zKE L b.salt b.hs]
 rfl
theorem zKN (L:Nat) (b:Bk) (e:Plc) (k:Int→List V→Option β):yi β (L+100) e.v b.v k=k (tbf b.salt e) b.v:=by
 unfold yi zjY
 have e1:List.take 3 (List.drop 1 e.v)=e.a.v:=rfl
 rw [ze (by rw [b.len]; omega),ze (by show 1+3≤5; omega),b.t32,e1,zKD L b.salt b.hs]
 rfl
theorem zCc {v:Int} {pre:List Plc} (h:∀ x ∈ pre,x.b < v):zaV v pre=0:=by
 unfold zaV
 rw [List.filter_eq_nil_iff.2 (fun x hx=>by have:=h x hx; simp; omega)]; rfl
structure Inv (pre:List Plc) (la ru:Int):Prop where
 le:∀ x ∈ pre,x.b≤la
 ru:ru=(zaV la pre:Nat)
 ex:(la=-1∧pre=[])∨∃ x ∈ pre,x.b=la
 mn:-1≤la
theorem Inv.next {pre:List Plc} {la ru:Int} (h:Inv pre la ru) {e:Plc} (he:la≤e.b):Inv (pre++[e]) e.b ((zaV e.b (pre++[e]):Nat):Int) :=
 ⟨fun x hx=>by
  rcases List.mem_append.1 hx with hx | hx
  ·have:=h.le x hx; omega
  ·simp at hx; subst hx; exact Int.le_refl _,rfl,.inr ⟨e,by simp,rfl⟩,by have:=h.mn; omega⟩
theorem zHJ {bk:Plc→Int} {N:List Adr} {pre:List Plc} {la ru:Int} (h:Inv pre la ru) {e:Plc} (hb:0≤bk e) (he:e.b < la):okS bk N pre e=false:=by
 rw [Bool.eq_false_iff]
 intro H
 have h1:=zHy H
 rcases h.ex with ⟨h2,h3⟩ | ⟨x,hx,h2⟩
 ·simp only [okS,Bool.and_eq_true,beq_iff_eq] at H
  omega
 ·have:=h1 x hx; omega
theorem zGT {bk:Plc→Int} {N:List Adr} {pre:List Plc} {la ru:Int} (h:Inv pre la ru) {e:Plc} (he:la≤e.b):okS bk N pre e=(e.b == bk e && (decide (zaV e.b (pre++[e])≤8) && !((N++pre.map Plc.a).any (fun a=>zL a e.a)))):=by
 unfold okS
 have h1:pre.all (fun x=>decide (x.b≤e.b))=true:=List.all_eq_true.2 fun x hx=>decide_eq_true (by have:=h.le x hx; omega)
 rw [h1,Bool.true_and,zhQ,if_pos rfl,List.any_append,List.any_map,Bool.not_or]
 have e1:decide (zaV e.b pre+1≤8)=decide (zaV e.b pre≤7):=decide_eq_decide.2 (by omega)
 rw [e1]
 congr 2
 rw [Bool.and_comm]; rfl
theorem zGr (L:Nat) (b:Bk) (l:List Plc) (hl:l.length≤1000) (N:List Adr) (kr:Bool→List (V × V)→List V→Option β) (kx:List (V × V)→List V→Option β) (R:Option β) (hr:∀ mp,kr false mp b.v=R):∀ (m i:Nat) (la ru:Int),i≤l.length→l.length - i < m→Inv (l.take i) la ru →
  zci zi (L+100) kr kx m la ru (zT l) ((l.length:Nat):Int) (i:Int) (zcZ (N++(l.take i).map Plc.a)) b.v=ifb (okA (hbf b.salt) N (l.take i) (l.drop i)) (kx (zcZ (N++l.map Plc.a)) b.v) R:=by
 intro m
 induction m with
 | zero=>intro i la ru h1 h2; omega
 | succ m IH =>
  intro i la ru h1 h2 hi
  unfold zci zg6
  by_cases h:i < l.length
  ·have e1:List.take 5 l[i].v=l[i].v:=rfl
   have e2:zh [(V.sc (.int .i64 (0:Int))),(V.sc (.int .u32 (0:Int))),(V.sc (.int .u16 (0:Int))),(V.sc (.int .u32 (0:Int))),(V.sc (.int .u32 (0:Int)))] 0 l[i].v=l[i].v:=zdq rfl
   have hcl:zaV la (l.take i)≤l.length:=by
    unfold zaV
    exact Nat.le_trans (List.length_filter_le _ _) (by rw [List.length_take]; omega)
   rw [zaz (by omega),zaB (zcJ h),e1,ze ⟨rfl,by omega⟩,zB,e2,yI (n:=l[i].b) rfl,zaA,List.drop_eq_getElem_cons h,okA]
   by_cases hlt:l[i].b < la
   ·rw [if_pos hlt,zHJ hi (zCq _ _).1 hlt,Bool.false_and,hr]; rfl
   ·rw [if_neg hlt,yI (n:=l[i].b) rfl,ze (by show 0+5≤5; omega),e1,zKK,ze rfl,zra,zGT hi (by omega)]
    by_cases hb:l[i].b=hbf b.salt l[i]
    ·have hi':=hi.next (e:=l[i]) (by omega)
     have key:∀ ru':Int,ru'=((zaV l[i].b (l.take i++[l[i]]):Nat):Int) →
       (cI .u32 l[i].v 1 fun v9 =>
        cI .u16 l[i].v 2 fun v10 =>
        lt [(V.sc (.int .u32 v9)),(V.sc (.int .u16 v10))] fun r11 =>
        ifb (decide (ru' > (8:Int))) (
        kr false (zcZ (N++(l.take i).map Plc.a)) b.v) (
        chk (0+2≤(List.length r11)) (
        mAt 4 (V.agg (List.take 2 r11)) (zcZ (N++(l.take i).map Plc.a)) fun q12 =>
        aB (Option.getD q12 (V.sc (.bool false))) fun v13 =>
        ifb v13 (
        kr false (zcZ (N++(l.take i).map Plc.a)) b.v) (
        chk (0+2≤(List.length r11)) (
        ztg 4 (V.agg (List.take 2 r11)) (V.sc (.bool true)) (zcZ (N++(l.take i).map Plc.a)) fun m14 =>
        lt (IntKind.wrap .i64 ((i:Int)+(1:Int))) fun x15 =>
        zci zi (L+100) kr kx m l[i].b ru' (zT l) ((l.length:Nat):Int) x15 m14 b.v)))))
       = ifb (decide (zaV l[i].b (l.take i++[l[i]])≤8) && !((N++(l.take i).map Plc.a).any (fun a=>zL a l[i].a)) && okA (hbf b.salt) N (l.take i++[l[i]]) (l.drop (i+1))) (kx (zcZ (N++l.map Plc.a)) b.v) R:=by
      intro ru' hru
      rw [yI (n:=l[i].a.h) rfl,yI (n:=l[i].a.p) rfl,zB,zaA]
      by_cases hc:zaV l[i].b (l.take i++[l[i]])≤8
      ·rw [if_neg (by omega),decide_eq_true hc,Bool.true_and,ze (by show 0+2≤2; omega),zCE]
       cases ha:(N++(l.take i).map Plc.a).any (fun a=>zL a l[i].a) with
       | true=>exact hr _
       | false =>
        rw [zaL,ze (by show 0+2≤2; omega),zA1 ha,zB,zac (by omega)]
        have ih:=IH (i+1) l[i].b ru' (by omega) (by omega) (by rw [List.take_succ_eq_append_getElem h,hru]; exact hi')
        rw [List.take_succ_eq_append_getElem h,List.map_append,List.map_cons,List.map_nil,← List.append_assoc] at ih
        exact ih
      ·rw [if_pos (by omega),decide_eq_false hc,hr]; rfl
     rw [if_pos hb,yI (n:=l[i].b) rfl,zra,beq_iff_eq.2 hb,Bool.true_and]
     by_cases hll:l[i].b=la
     ·rw [if_pos hll,zB,← hll]
      have e3:IntKind.wrap .i64 (ru+1)=((zaV l[i].b (l.take i++[l[i]]):Nat):Int):=by
       rw [hi.ru,zai (by omega) (by omega),zhQ,if_pos rfl,hll]; omega
      exact key _ e3
     ·rw [if_neg hll,yI (n:=l[i].b) rfl,zB]
      have e3:IntKind.wrap .i64 (((0:Int):Int)+1)=((zaV l[i].b (l.take i++[l[i]]):Nat):Int):=by
       rw [zai (by omega) (by omega),zhQ,if_pos rfl,zCc (fun x hx=>by have:=hi.le x hx; omega)]; rfl
      exact key _ e3
    ·rw [if_neg hb,beq_eq_false_iff_ne.2 hb,hr]; rfl
  ·rw [zaT (by omega),List.drop_of_length_le (by omega),List.take_of_length_le (by omega)]; rfl
theorem zKt (L:Nat) (b:Bk) (l:List Plc) (hl:l.length≤1000) (hL:1000 < L) (N:List Adr) (k:Bool→List (V × V)→List V→Option β) (R:Option β) (hr:∀ mp,k false mp b.v=R) :
  xU β (L+100) (zT l) (zcZ N) b.v k=ifb (decide (l.length≤512) && okA (hbf b.salt) N [] l) (k true (zcZ (N++l.map Plc.a)) b.v) R:=by
 unfold xU zil zmn
 rw [zag,zaA]
 by_cases h:l.length≤512
 ·rw [if_neg (by omega),decide_eq_true h,Bool.true_and,show ((0:Int))=((0:Nat):Int) from rfl]
  have:=zGr L b l hl N (fun p6 b0 b1=>zfh zi (L+100) p6 b0 b1 k) (fun b0 b1=>zfN zi (L+100) b0 b1 k) R (fun mp=>hr mp) (L+100) 0 (-1) 0 (by omega) (by omega) ⟨by simp,rfl,.inl ⟨rfl,rfl⟩,by omega⟩
  rw [List.take_zero,List.drop_zero,List.map_nil,List.append_nil] at this
  exact this
 ·rw [if_pos (by omega),decide_eq_false h,hr]; rfl
theorem zGp (L:Nat) (b:Bk) (l:List Plc) (hl:l.length≤1000) (N:List Adr) (kr:Bool→List (V × V)→List V→Option β) (kx:List (V × V)→List V→Option β) (R:Option β) (hr:∀ mp,kr false mp b.v=R):∀ (m i:Nat) (la ru:Int),i≤l.length→l.length - i < m→Inv (l.take i) la ru →
  zbL yi (L+100) kr kx m la ru (zT l) ((l.length:Nat):Int) (i:Int) (zcZ (N++(l.take i).map Plc.a)) b.v=ifb (okA (tbf b.salt) N (l.take i) (l.drop i)) (kx (zcZ (N++l.map Plc.a)) b.v) R:=by
 intro m
 induction m with
 | zero=>intro i la ru h1 h2; omega
 | succ m IH =>
  intro i la ru h1 h2 hi
  unfold zbL zfA
  by_cases h:i < l.length
  ·have e1:List.take 5 l[i].v=l[i].v:=rfl
   have e2:zh [(V.sc (.int .i64 (0:Int))),(V.sc (.int .u32 (0:Int))),(V.sc (.int .u16 (0:Int))),(V.sc (.int .u32 (0:Int))),(V.sc (.int .u32 (0:Int)))] 0 l[i].v=l[i].v:=zdq rfl
   have hcl:zaV la (l.take i)≤l.length:=by
    unfold zaV
    exact Nat.le_trans (List.length_filter_le _ _) (by rw [List.length_take]; omega)
   rw [zaz (by omega),zaB (zcJ h),e1,ze ⟨rfl,by omega⟩,zB,e2,yI (n:=l[i].b) rfl,zaA,List.drop_eq_getElem_cons h,okA]
   by_cases hlt:l[i].b < la
   ·rw [if_pos hlt,zHJ hi (zCw _ _).1 hlt,Bool.false_and,hr]; rfl
   ·rw [if_neg hlt,yI (n:=l[i].b) rfl,ze (by show 0+5≤5; omega),e1,zKN,ze rfl,zra,zGT hi (by omega)]
    by_cases hb:l[i].b=tbf b.salt l[i]
    ·have hi':=hi.next (e:=l[i]) (by omega)
     have key:∀ ru':Int,ru'=((zaV l[i].b (l.take i++[l[i]]):Nat):Int) →
       (cI .u32 l[i].v 1 fun v9 =>
        cI .u16 l[i].v 2 fun v10 =>
        lt [(V.sc (.int .u32 v9)),(V.sc (.int .u16 v10))] fun r11 =>
        ifb (decide (ru' > (8:Int))) (
        kr false (zcZ (N++(l.take i).map Plc.a)) b.v) (
        chk (0+2≤(List.length r11)) (
        mAt 4 (V.agg (List.take 2 r11)) (zcZ (N++(l.take i).map Plc.a)) fun q12 =>
        aB (Option.getD q12 (V.sc (.bool false))) fun v13 =>
        ifb v13 (
        kr false (zcZ (N++(l.take i).map Plc.a)) b.v) (
        chk (0+2≤(List.length r11)) (
        ztg 4 (V.agg (List.take 2 r11)) (V.sc (.bool true)) (zcZ (N++(l.take i).map Plc.a)) fun m14 =>
        lt (IntKind.wrap .i64 ((i:Int)+(1:Int))) fun x15 =>
        zbL yi (L+100) kr kx m l[i].b ru' (zT l) ((l.length:Nat):Int) x15 m14 b.v)))))
       = ifb (decide (zaV l[i].b (l.take i++[l[i]])≤8) && !((N++(l.take i).map Plc.a).any (fun a=>zL a l[i].a)) && okA (tbf b.salt) N (l.take i++[l[i]]) (l.drop (i+1))) (kx (zcZ (N++l.map Plc.a)) b.v) R:=by
      intro ru' hru
      rw [yI (n:=l[i].a.h) rfl,yI (n:=l[i].a.p) rfl,zB,zaA]
      by_cases hc:zaV l[i].b (l.take i++[l[i]])≤8
      ·rw [if_neg (by omega),decide_eq_true hc,Bool.true_and,ze (by show 0+2≤2; omega),zCE]
       cases ha:(N++(l.take i).map Plc.a).any (fun a=>zL a l[i].a) with
       | true=>exact hr _
       | false =>
        rw [zaL,ze (by show 0+2≤2; omega),zA1 ha,zB,zac (by omega)]
        have ih:=IH (i+1) l[i].b ru' (by omega) (by omega) (by rw [List.take_succ_eq_append_getElem h,hru]; exact hi')
        rw [List.take_succ_eq_append_getElem h,List.map_append,List.map_cons,List.map_nil,← List.append_assoc] at ih
        exact ih
      ·rw [if_pos (by omega),decide_eq_false hc,hr]; rfl
     rw [if_pos hb,yI (n:=l[i].b) rfl,zra,beq_iff_eq.2 hb,Bool.true_and]
     by_cases hll:l[i].b=la
     ·rw [if_pos hll,zB,← hll]
      have e3:IntKind.wrap .i64 (ru+1)=((zaV l[i].b (l.take i++[l[i]]):Nat):Int):=by
       rw [hi.ru,zai (by omega) (by omega),zhQ,if_pos rfl,hll]; omega
      exact key _ e3
     ·rw [if_neg hll,yI (n:=l[i].b) rfl,zB]
      have e3:IntKind.wrap .i64 (((0:Int):Int)+1)=((zaV l[i].b (l.take i++[l[i]]):Nat):Int):=by
       rw [zai (by omega) (by omega),zhQ,if_pos rfl,zCc (fun x hx=>by have:=hi.le x hx; omega)]; rfl
      exact key _ e3
    ·rw [if_neg hb,beq_eq_false_iff_ne.2 hb,hr]; rfl
  ·rw [zaT (by omega),List.drop_of_length_le (by omega),List.take_of_length_le (by omega)]; rfl
theorem zKG (L:Nat) (b:Bk) (l:List Plc) (hl:l.length≤1000) (hL:1000 < L) (N:List Adr) (k:Bool→List (V × V)→List V→Option β) (R:Option β) (hr:∀ mp,k false mp b.v=R) :
  zP β (L+100) (zT l) (zcZ N) b.v k=ifb (decide (l.length≤512) && okA (tbf b.salt) N [] l) (k true (zcZ (N++l.map Plc.a)) b.v) R:=by
 unfold zP zgn zj6
 rw [zag,zaA]
 by_cases h:l.length≤512
 ·rw [if_neg (by omega),decide_eq_true h,Bool.true_and,show ((0:Int))=((0:Nat):Int) from rfl]
  have:=zGp L b l hl N (fun p6 b0 b1=>zey yi (L+100) p6 b0 b1 k) (fun b0 b1=>zeU yi (L+100) b0 b1 k) R (fun mp=>hr mp) (L+100) 0 (-1) 0 (by omega) (by omega) ⟨by simp,rfl,.inl ⟨rfl,rfl⟩,by omega⟩
  rw [List.take_zero,List.drop_zero,List.map_nil,List.append_nil] at this
  exact this
 ·rw [if_pos (by omega),decide_eq_false h,hr]; rfl
def zxU (b:Bk):Bool:=(decide (b.H.length≤512) && okA (hbf b.salt) [] [] b.H) && (decide (b.T.length≤512) && okA (tbf b.salt) (b.H.map Plc.a) [] b.T)
theorem zKj (L:Nat) (b:Bk) (hH:b.H.length≤1000) (hT:b.T.length≤1000) (hL:1000 < L) (k:Bool→Option β):yl β (L+100) b.v k=k (zxU b):=by
 unfold yl zmh zxU
 rw [zdk b.g32]
 refine (zKt L b b.H hH hL [] _ (k false) (fun mp=>ze rfl _)).trans ?_
 rw [List.nil_append]
 cases (decide (b.H.length≤512) && okA (hbf b.salt) [] [] b.H) with
 | false=>rfl
 | true =>
  rw [ze0,ze rfl,ze0,zdk b.g33]
  refine (zKG L b b.T hT hL _ _ (k false) (fun mp=>ze rfl _)).trans ?_
  cases (decide (b.T.length≤512) && okA (tbf b.salt) (b.H.map Plc.a) [] b.T) with
  | false=>rfl
  | true=>exact ze rfl _
theorem zKA (bk:Plc→Int) (N:List Adr) (pre:List Plc) (e:Plc):okS bk N pre e=(okS bk [] pre e && !(N.any (fun a=>zL a e.a))):=by
 unfold okS
 simp [Bool.and_assoc]
theorem zIR (bk:Plc→Int) (N:List Adr):∀ (l pre:List Plc),okA bk N pre l=(okA bk [] pre l && l.all (fun e=>!(N.any (fun a=>zL a e.a))))
 | [],pre=>rfl
 | e::l,pre=>by
  rw [okA,okA,zKA,zIR bk N l,List.all_cons]
  cases okS bk [] pre e <;> cases (N.any (fun a=>zL a e.a)) <;> simp
theorem zIc (H T:List Plc):T.all (fun e=>!((H.map Plc.a).any (fun a=>zL a e.a)))=H.all (fun e=>!(T.any (fun x=>zL x.a e.a))):=by
 rw [Bool.eq_iff_iff]
 simp only [List.all_eq_true,Bool.not_eq_true',List.any_eq_false,List.mem_map,Bool.not_eq_true,forall_exists_index,and_imp,forall_apply_eq_imp_iff₂]
 constructor
 ·intro h x hx e he; rw [ziD]; exact h e he x hx
 ·intro h x hx e he; rw [ziD]; exact h e he x hx
theorem zIp (b:Bk):zxU b=zrg b:=by
 unfold zxU zrg
 rw [zqL,zqL,zIR (tbf b.salt) (b.H.map Plc.a),zIc]
 simp [Bool.and_assoc]
end
section
set_option linter.unusedVariables false
set_option linter.unusedSimpArgs false
def zan (l:List Plc) (v:Int):Nat:=(l.takeWhile (fun x=>decide (x.b < v))).length
def toN (l:List Plc) (v:Int):Nat:=zan l v+((l.drop (zan l v)).takeWhile (fun x=>x.b == v)).length
def zlo (l:List Plc) (p:Plc):List Plc:=l.take (toN l p.b)++[p]++l.drop (toN l p.b)
def zgi (l:List Plc) (i:Nat):List Plc:=l.take i++l.drop (i+1)
def zIv (t:Int) (e:Plc):Plc:=⟨e.b,⟨e.a.h,e.a.p,zF7 e.a.t t⟩,e.s⟩
def zvq (l:List Plc) (i:Nat) (t:Int):List Plc:=l.modify i (zIv t)
def zxM (l:List Plc) (i:Nat):Int:=match l[i]? with | some e=>e.a.t | none=>0
def zlN (l:List Plc):Nat→Nat→Nat→Nat
 | 0,_,m=>m
 | n+1,i,m=>zlN l n (i+1) (if zxM l i < zxM l m then i else m)
def zkS (b:Bk) (a:Adr) (src:Int):Bk × Bool :=
 if ze2 (fun x=>zL x.a a) b.T 0 ≥ 0 then (⟨b.salt,b.H,zvq b.T (ze2 (fun x=>zL x.a a) b.T 0).toNat a.t,b.hs⟩,false)
 else if ze2 (fun x=>zL x.a a) b.H 0 ≥ 0 then (⟨b.salt,zvq b.H (ze2 (fun x=>zL x.a a) b.H 0).toNat a.t,b.T,b.hs⟩,false)
 else if toN b.H (hbk b.salt a src) - zan b.H (hbk b.salt a src) ≥ 8 then
  (if zxM b.H (zlN b.H (toN b.H (hbk b.salt a src) - zan b.H (hbk b.salt a src)) (zan b.H (hbk b.salt a src)) (zan b.H (hbk b.salt a src))) ≥ a.t then (b,false)
   else (⟨b.salt,zlo (zgi b.H (zlN b.H (toN b.H (hbk b.salt a src) - zan b.H (hbk b.salt a src)) (zan b.H (hbk b.salt a src)) (zan b.H (hbk b.salt a src)))) ⟨hbk b.salt a src,a,src⟩,b.T,b.hs⟩,true))
 else (⟨b.salt,zlo b.H ⟨hbk b.salt a src,a,src⟩,b.T,b.hs⟩,true)
def zfK (b:Bk) (e:Plc):Plc:=⟨tbk b.salt e.a,e.a,e.s⟩
def zvA (b:Bk) (i:Nat) (e:Plc):Bk :=
 if toN b.T (tbk b.salt e.a) - zan b.T (tbk b.salt e.a) ≥ 8 then
  (match b.T[zan b.T (tbk b.salt e.a)]? with
   | some o=>(zkS ⟨b.salt,zgi b.H i,zlo (zgi b.T (zan b.T (tbk b.salt e.a))) (zfK b e),b.hs⟩ o.a (grp o.a)).1
   | none=>b)
 else ⟨b.salt,zgi b.H i,zlo b.T (zfK b e),b.hs⟩
theorem Srt.split3 {l:List Plc} (v:Int) (h:Srt l):∃ A B C:List Plc,l=A++(B++C)∧(∀ x ∈ A,x.b < v)∧(∀ x ∈ B,x.b=v)∧(∀ x ∈ C,v < x.b):=by
 induction l with
 | nil=>exact ⟨[],[],[],rfl,by simp,by simp,by simp⟩
 | cons x l ih =>
  have h':=List.pairwise_cons.1 h
  obtain ⟨A,B,C,rfl,hA,hB,hC⟩:=ih h'.2
  by_cases hx:x.b < v
  ·exact ⟨x::A,B,C,rfl,by simpa using ⟨hx,hA⟩,hB,hC⟩
  ·have eA:A=[]:=by
    cases A with
    | nil=>rfl
    | cons a A =>
     have h1:=hA a (by simp)
     have h2:=h'.1 a (by simp)
     omega
   subst eA
   by_cases hxv:x.b=v
   ·exact ⟨[],x::B,C,rfl,by simp,by simpa using ⟨hxv,hB⟩,hC⟩
   ·have eB:B=[]:=by
     cases B with
     | nil=>rfl
     | cons a B =>
      have h1:=hB a (by simp)
      have h2:=h'.1 a (by simp)
      omega
    subst eB
    exact ⟨[],[],x::C,rfl,by simp,by simp,by simpa using ⟨by omega,hC⟩⟩
theorem zu3 {A B C:List Plc} {v:Int} (hA:∀ x ∈ A,x.b < v) (hB:∀ x ∈ B,x.b=v) (hC:∀ x ∈ C,v < x.b):zan (A++(B++C)) v=A.length:=by
 unfold zan
 rw [List.takeWhile_append_of_pos (fun x hx=>decide_eq_true (hA x hx))]
 have:(B++C).takeWhile (fun x=>decide (x.b < v))=[]:=by
  cases B with
  | cons b B=>rw [List.cons_append,List.takeWhile_cons,if_neg (by have:=hB b (by simp); simp; omega)]
  | nil=>cases C with
   | nil=>rfl
   | cons c C=>rw [List.nil_append,List.takeWhile_cons,if_neg (by have:=hC c (by simp); simp; omega)]
 rw [this,List.append_nil]
theorem zzi {A B C:List Plc} {v:Int} (hA:∀ x ∈ A,x.b < v) (hB:∀ x ∈ B,x.b=v) (hC:∀ x ∈ C,v < x.b):toN (A++(B++C)) v=A.length+B.length:=by
 unfold toN
 rw [zu3 hA hB hC,List.drop_left' rfl,List.takeWhile_append_of_pos (fun x hx=>beq_iff_eq.2 (hB x hx))]
 have:C.takeWhile (fun x=>x.b == v)=[]:=by
  cases C with
  | nil=>rfl
  | cons c C=>rw [List.takeWhile_cons,if_neg (by have:=hC c (by simp); simp; omega)]
 rw [this,List.append_nil]
theorem zwA {A B C:List Plc} {p:Plc} (hA:∀ x ∈ A,x.b < p.b) (hB:∀ x ∈ B,x.b=p.b) (hC:∀ x ∈ C,p.b < x.b):zlo (A++(B++C)) p=A++(B++(p::C)):=by
 unfold zlo
 rw [zzi hA hB hC,← List.append_assoc,List.take_left' (by simp),List.drop_left' (by simp)]
 simp
theorem ztW {l' l:List Plc} (h:l'.Sublist l) (v:Int):zaV v l'≤zaV v l:=(h.filter _).length_le
theorem TOk.sub {bk:Plc→Int} {N:List Adr} {l l':List Plc} (h:TOk bk N l) (hs:l'.Sublist l):TOk bk N l' :=
 ⟨fun e he=>h.b e (hs.subset he),h.s.sublist hs,fun v=>Nat.le_trans (ztW hs v) (h.c v),h.n.sublist hs,fun e he=>h.f e (hs.subset he)⟩
theorem zeY (l:List Plc) (i:Nat):(zgi l i).Sublist l:=by
 unfold zgi
 rw [← List.eraseIdx_eq_take_drop_succ]
 exact List.eraseIdx_sublist l i
theorem zt0 {l:List Plc} {p x:Plc} (h:x ∈ zlo l p):x=p∨x ∈ l:=by
 unfold zlo at h
 simp only [List.mem_append,List.mem_singleton] at h
 rcases h with (h | h) | h
 ·exact .inr (List.mem_of_mem_take h)
 ·exact .inl h
 ·exact .inr (List.mem_of_mem_drop h)
theorem TOk.ins {bk:Plc→Int} {N:List Adr} {l:List Plc} (h:TOk bk N l) {p:Plc} (hb:p.b=bk p) (hc:zaV p.b l≤7) (hn:∀ x ∈ l,zL x.a p.a=false) (hf:∀ a ∈ N,zL a p.a=false):TOk bk N (zlo l p):=by
 obtain ⟨A,B,C,rfl,hA,hB,hC⟩:=h.s.split3 p.b
 have hs:=h.s
 have hnn:=h.n
 refine ⟨fun e he=>?_,?_,fun v=>?_,?_,fun e he=>?_⟩
 ·rcases zt0 he with rfl | he
  ·exact hb
  ·exact h.b e he
 ·rw [zwA hA hB hC]
  unfold Srt at hs ⊢
  simp only [List.pairwise_append,List.pairwise_cons,List.mem_append,List.mem_cons] at hs ⊢
  obtain ⟨sA,⟨sB,sC,sBC⟩,sABC⟩:=hs
  refine ⟨sA,⟨sB,⟨fun c hc=>Int.le_of_lt (hC c hc),sC⟩,?_⟩,?_⟩
  ·rintro x hx y (rfl | hy)
   ·rw [hB x hx]; exact Int.le_refl _
   ·exact sBC x hx y hy
  ·rintro x hx y (hy | rfl | hy)
   ·exact sABC x hx y (.inl hy)
   ·exact Int.le_of_lt (hA x hx)
   ·exact sABC x hx y (.inr hy)
 ·have hv:=h.c v
  rw [zwA hA hB hC]
  have e:zaV v (A++(B++p::C))=zaV v (A++(B++C))+if p.b=v then 1 else 0:=by
   unfold zaV
   simp only [List.filter_append,List.length_append,List.filter_cons,beq_iff_eq]
   split <;> simp <;> omega
  rw [e]
  split
  ·rename_i hp; rw [← hp]; omega
  ·omega
 ·rw [zwA hA hB hC]
  simp only [List.mem_append] at hn
  simp only [List.pairwise_append,List.pairwise_cons,List.mem_append,List.mem_cons] at hnn ⊢
  obtain ⟨sA,⟨sB,sC,sBC⟩,sABC⟩:=hnn
  refine ⟨sA,⟨sB,⟨fun c hc=>by rw [ziD]; exact hn c (.inr (.inr hc)),sC⟩,?_⟩,?_⟩
  ·rintro x hx y (rfl | hy)
   ·exact hn x (.inr (.inl hx))
   ·exact sBC x hx y hy
  ·rintro x hx y (hy | rfl | hy)
   ·exact sABC x hx y (.inl hy)
   ·exact hn x (.inl hx)
   ·exact sABC x hx y (.inr hy)
 ·rcases zt0 he with rfl | he
  ·exact hf
  ·exact h.f e he
theorem zEf {bk:Plc→Int} {N:List Adr} {l:List Plc} (h:TOk bk N l) (v:Int):toN l v - zan l v=zaV v l:=by
 obtain ⟨A,B,C,rfl,hA,hB,hC⟩:=h.s.split3 v
 rw [zzi hA hB hC,zu3 hA hB hC]
 unfold zaV
 rw [List.filter_append,List.filter_append,List.filter_eq_nil_iff.2 (fun x hx=>by have:=hA x hx; simp; omega),List.filter_eq_self.2 (fun x hx=>by simp [hB x hx]),List.filter_eq_nil_iff.2 (fun x hx=>by have:=hC x hx; simp; omega)]
 simp
theorem zxY (l:List Plc) (v:Int):zan l v≤toN l v∧toN l v≤l.length:=by
 unfold toN
 have h1:zan l v≤l.length:=by unfold zan; exact (List.takeWhile_sublist _).length_le
 have h2:=(List.takeWhile_sublist (fun x:Plc=>x.b == v) (l:=l.drop (zan l v))).length_le
 rw [List.length_drop] at h2
 omega
theorem zCL {bk:Plc→Int} {N:List Adr} {l:List Plc} (h:TOk bk N l) {v:Int} {i:Nat} (h1:zan l v≤i) (h2:i < toN l v) (hi:i < l.length):l[i].b=v:=by
 obtain ⟨A,B,C,rfl,hA,hB,hC⟩:=h.s.split3 v
 rw [zzi hA hB hC] at h2
 rw [zu3 hA hB hC] at h1
 rw [List.getElem_append_right h1,List.getElem_append_left (by omega)]
 exact hB _ (List.getElem_mem _)
theorem zFo {bk:Plc→Int} {N:List Adr} {l:List Plc} (h:TOk bk N l) {i:Nat} (hi:i < l.length):zaV l[i].b (zgi l i)≤7:=by
 have key:∀ v,l[i].b=v→zaV v l=zaV v (zgi l i)+1:=by
  intro v hv
  have e:l=l.take i++(l[i]::l.drop (i+1)):=by rw [← List.drop_eq_getElem_cons hi,List.take_append_drop]
  refine (congrArg (zaV v) e).trans ?_
  unfold zaV zgi
  rw [List.filter_append,List.filter_append,List.filter_cons,if_pos (by simp [hv])]
  simp
  omega
 have hc:=h.c l[i].b
 have:=key _ rfl
 omega
def zb7 (e:Plc):Int × Int × Int × Int:=(e.b,e.a.h,e.a.p,e.s)
theorem zsV {α β:Type} (f:α→α) (g:α→β) (h:∀ x,g (f x)=g x):∀ (l:List α) (i:Nat),(l.modify i f).map g=l.map g
 | [],i=>by cases i <;> rfl
 | x::l,0=>by simp [List.modify,h]
 | x::l,i+1=>by simpa using zsV f g h l i
theorem zro (l:List Plc) (i:Nat) (t:Int):(zvq l i t).map zb7=l.map zb7:=zsV (zIv t) zb7 (fun _=>rfl) l i
theorem zCD {x y x' y':Plc} (hx:zb7 x=zb7 x') (hy:zb7 y=zb7 y'):zL x.a y.a=zL x'.a y'.a:=by
 simp only [zb7,Prod.mk.injEq] at hx hy
 simp only [zL,hx.2.1,hx.2.2.1,hy.2.1,hy.2.2.1]
theorem zxN {l l':List Plc} (hk:l'.map zb7=l.map zb7) {x:Plc} (hx:x ∈ l'):∃ y ∈ l,zb7 y=zb7 x:=by
 have:=List.mem_map_of_mem (f:=zb7) hx
 rw [hk] at this
 obtain ⟨y,h1,h2⟩:=List.mem_map.1 this
 exact ⟨y,h1,h2⟩
theorem TOk.key {bk:Plc→Int} (hbk:∀ x y,zb7 x=zb7 y→bk x=bk y) {l l':List Plc} (h:TOk bk [] l) (hk:l'.map zb7=l.map zb7):TOk bk [] l':=by
 refine ⟨fun e he=>?_,?_,fun v=>?_,?_,by simp⟩
 ·obtain ⟨y,h1,h2⟩:=zxN hk he
  have:=h.b y h1
  rw [← hbk y e h2,← this]
  simp only [zb7,Prod.mk.injEq] at h2
  exact h2.1.symm
 ·have h1:(l.map zb7).Pairwise (fun x y=>x.1≤y.1):=List.pairwise_map.2 h.s
  rw [← hk] at h1
  have h2:l'.Pairwise (fun x y=>(zb7 x).1≤(zb7 y).1):=(List.pairwise_map (f:=zb7) (R:=fun x y=>x.1≤y.1)).1 h1
  exact h2
 ·have e:∀ m:List Plc,zaV v m=((m.map zb7).filter (fun x=>x.1 == v)).length:=by
   intro m
   unfold zaV
   rw [List.filter_map,List.length_map]
   rfl
  rw [e,hk,← e]; exact h.c v
 ·have h1:(l.map zb7).Pairwise (fun x y=>(x.2.1 == y.2.1 && x.2.2.1 == y.2.2.1)=false):=List.pairwise_map.2 h.n
  rw [← hk] at h1
  have h2:l'.Pairwise (fun x y=>((zb7 x).2.1 == (zb7 y).2.1 && (zb7 x).2.2.1 == (zb7 y).2.2.1)=false):=List.pairwise_map.1 h1
  exact h2
theorem zJl (s:List Int) (x y:Plc) (h:zb7 x=zb7 y):hbf s x=hbf s y:=by
 simp only [zb7,Prod.mk.injEq] at h
 simp only [hbf,hbk,grp,h.2.1,h.2.2.2]
theorem zJi (s:List Int) (x y:Plc) (h:zb7 x=zb7 y):tbf s x=tbf s y:=by
 simp only [zb7,Prod.mk.injEq] at h
 simp only [tbf,tbk,grp,h.2.1,h.2.2.1]
structure SndB (b:Bk):Prop where
 h:TOk (hbf b.salt) [] b.H
 t:TOk (tbf b.salt) [] b.T
 d:∀ x ∈ b.H,∀ y ∈ b.T,zL y.a x.a=false
theorem zHp (l:List Plc):∀ (n:Nat) (l:List Plc),(∀ e ∈ l,0≤e.b∧e.b < n)→(∀ v,zaV v l≤8)→l.length≤8 * n
 | 0,l,h,_=>by
  cases l with
  | nil=>simp
  | cons x l=>have:=h x (by simp); omega
 | n+1,l,h,hc=>by
  have ih:=zHp l n (l.filter (fun e=>!(e.b == (n:Int)))) (fun e he=>by
   have h1:=List.mem_filter.1 he
   have h2:=h e h1.1
   have h3:¬ e.b=n:=by simpa using h1.2
   omega) (fun v=>Nat.le_trans (ztW List.filter_sublist v) (hc v))
  have h1:=hc n
  have h2:l.length=(l.filter (fun e=>e.b == (n:Int))).length+(l.filter (fun e=>!(e.b == (n:Int)))).length:=by
   clear ih hc h h1
   induction l with
   | nil=>rfl
   | cons x l ih=>by_cases hx:x.b=n <;> simp [hx] <;> omega
  unfold zaV at h1
  omega
theorem TOk.len {bk:Plc→Int} {N:List Adr} {l:List Plc} (h:TOk bk N l) (hb:∀ e,0≤bk e∧bk e < 64):l.length≤512 :=
 zHp l 64 l (fun e he=>by have:=hb e; rw [h.b e he]; exact this) h.c
theorem SndB.lenH {b:Bk} (h:SndB b):b.H.length≤512:=h.h.len (zCq _)
theorem SndB.lenT {b:Bk} (h:SndB b):b.T.length≤512:=h.t.len (zCw _)
theorem ztd (b:Bk):zrg b=true↔SndB b:=by
 unfold zrg
 rw [zqL,zqL]
 simp only [Bool.and_eq_true,decide_eq_true_eq,zBH _ _ _ _ (TOk.nil _ _),List.nil_append,List.all_eq_true,Bool.not_eq_true',List.any_eq_false,Bool.not_eq_true]
 constructor
 ·rintro ⟨⟨_,h1⟩,⟨_,h2⟩,h3⟩
  exact ⟨h1,h2,h3⟩
 ·intro h
  exact ⟨⟨h.lenH,h.h⟩,⟨h.lenT,h.t⟩,h.d⟩
theorem zCm {l:List Plc} {a:Adr} (h:¬ ze2 (fun x=>zL x.a a) l 0 ≥ 0):∀ x ∈ l,zL x.a a=false:=by
 rcases zpB (fun x:Plc=>zL x.a a) l 0 with ⟨h1,h2⟩ | ⟨j,hj,h1,h2,h3⟩
 ·exact h2
 ·omega
theorem zna (l:List Plc) (a z:Nat):∀ (n i m:Nat),a≤i→i+n≤z→a≤m→m < z→a≤zlN l n i m∧zlN l n i m < z
 | 0,i,m,_,_,h1,h2=>⟨h1,h2⟩
 | n+1,i,m,h0,h,h1,h2=>by
  rw [zlN]
  split
  ·exact zna l a z n (i+1) i (by omega) (by omega) (by omega) (by omega)
  ·exact zna l a z n (i+1) m (by omega) (by omega) h1 h2
theorem zCf {b:Bk} (h:SndB b) (a:Adr) (src:Int):SndB (zkS b a src).1:=by
 unfold zkS
 split
 ·refine ⟨h.h,h.t.key (zJi _) (zro _ _ _),fun x hx y hy=>?_⟩
  obtain ⟨z,h1,h2⟩:=zxN (zro _ _ _) hy
  rw [← zCD h2 (rfl:zb7 x=zb7 x)]
  exact h.d x hx z h1
 ·rename_i hT
  split
  ·refine ⟨h.h.key (zJl _) (zro _ _ _),h.t,fun x hx y hy=>?_⟩
   obtain ⟨z,h1,h2⟩:=zxN (zro _ _ _) hx
   rw [← zCD (rfl:zb7 y=zb7 y) h2]
   exact h.d z h1 y hy
  ·rename_i hH
   have nT:=zCm hT
   have nH:=zCm hH
   have dd:∀ (l':List Plc),l'.Sublist b.H→∀ x ∈ zlo l' ⟨hbk b.salt a src,a,src⟩,∀ y ∈ b.T,zL y.a x.a=false:=by
    intro l' hl' x hx y hy
    rcases zt0 hx with rfl | hx
    ·exact nT y hy
    ·exact h.d x (hl'.subset hx) y hy
   split
   ·rename_i h8
    split
    ·exact h
    ·have hr:=zxY b.H (hbk b.salt a src)
     have hm:=zna b.H (zan b.H (hbk b.salt a src)) (toN b.H (hbk b.salt a src)) (toN b.H (hbk b.salt a src) - zan b.H (hbk b.salt a src)) (zan b.H (hbk b.salt a src)) (zan b.H (hbk b.salt a src)) (Nat.le_refl _) (by omega) (Nat.le_refl _) (by omega)
     generalize zlN b.H (toN b.H (hbk b.salt a src) - zan b.H (hbk b.salt a src)) (zan b.H (hbk b.salt a src)) (zan b.H (hbk b.salt a src))=m at hm ⊢
     have hml:m < b.H.length:=by omega
     have hc:=zFo h.h hml
     rw [zCL h.h hm.1 hm.2 hml] at hc
     exact ⟨(h.h.sub (zeY _ _)).ins rfl hc (fun x hx=>nH x ((zeY _ _).subset hx)) (by simp),h.t,dd _ (zeY _ _)⟩
   ·rename_i h8
    rw [zEf h.h] at h8
    exact ⟨h.h.ins rfl (by show zaV (hbk b.salt a src) b.H≤7; omega) nH (by simp),h.t,dd _ (List.Sublist.refl _)⟩
theorem zHr {l:List Plc} (h:l.Pairwise (fun x y=>zL x.a y.a=false)) {i:Nat} (hi:i < l.length):∀ x ∈ zgi l i,zL x.a l[i].a=false:=by
 intro x hx
 have hp:=List.pairwise_iff_getElem.1 h
 unfold zgi at hx
 rcases List.mem_append.1 hx with hx | hx
 ·obtain ⟨j,hj,rfl⟩:=List.mem_take_iff_getElem.1 hx
  exact hp j i (by omega) hi (by omega)
 ·obtain ⟨j,hj,rfl⟩:=List.mem_drop_iff_getElem.1 hx
  rw [ziD]
  exact hp i (i+1+j) hi (by omega) (by omega)
theorem zKv (v:Int) (a:Adr) (s:Int):(⟨v,a,s⟩:Plc).b=v:=rfl
theorem zKF (v:Int) (a:Adr) (s:Int):(⟨v,a,s⟩:Plc).a=a:=rfl
theorem zzs (b:Bk) (e:Plc):(zfK b e).b=tbk b.salt e.a:=by unfold zfK; exact zKv _ _ _
theorem zrH (b:Bk) (e:Plc):(zfK b e).a=e.a:=by unfold zfK; exact zKF _ _ _
theorem zJF (s:List Int) (e:Plc):tbf s e=tbk s e.a:=by unfold tbf; rfl
theorem zGV {b:Bk} (h:SndB b) {i:Nat} (hi:i < b.H.length):SndB (zvA b i b.H[i]):=by
 have hH:=h.h.sub (zeY b.H i)
 have hn:=zHr h.h.n hi
 have hd:∀ y ∈ b.T,zL y.a b.H[i].a=false:=fun y hy=>h.d _ (List.getElem_mem hi) y hy
 have dd:∀ (l':List Plc),l'.Sublist b.T→∀ x ∈ zgi b.H i,∀ y ∈ zlo l' (zfK b b.H[i]),zL y.a x.a=false:=by
  intro l' hl' x hx y hy
  rcases zt0 hy with rfl | hy
  ·rw [ziD,zrH]; exact hn x hx
  ·exact h.d x ((zeY _ _).subset hx) y (hl'.subset hy)
 have hp:(zfK b b.H[i]).b=tbk b.salt b.H[i].a:=zzs _ _
 have hq:(zfK b b.H[i]).b=tbf b.salt (zfK b b.H[i]):=by rw [hp,zJF,zrH]
 unfold zvA
 split
 ·rename_i h8
  have hr:=zxY b.T (tbk b.salt b.H[i].a)
  have hl:zan b.T (tbk b.salt b.H[i].a) < b.T.length:=by omega
  rw [List.getElem?_eq_getElem hl]
  simp only
  refine zCf ⟨hH,?_,dd _ (zeY _ _)⟩ _ _
  have hc:=zFo h.t hl
  rw [zCL h.t (Nat.le_refl _) (by omega) hl] at hc
  rw [← hp] at hc
  exact (h.t.sub (zeY _ _)).ins hq hc (fun x hx=>by rw [zrH]; exact hd x ((zeY _ _).subset hx)) (by simp)
 ·rename_i h8
  rw [zEf h.t,← hp] at h8
  exact ⟨hH,h.t.ins hq (by omega) (fun x hx=>by rw [zrH]; exact hd x hx) (by simp),dd _ (List.Sublist.refl _)⟩
def NnB (b:Bk):Prop:=(∀ e ∈ b.H,0≤e.a.h)∧∀ e ∈ b.T,0≤e.a.h
theorem zFz {l:List Plc} (h:∀ e ∈ l,0≤e.a.h) (i:Nat) (t:Int):∀ e ∈ zvq l i t,0≤e.a.h:=by
 intro e he
 obtain ⟨y,h1,h2⟩:=zxN (zro _ _ _) he
 simp only [zb7,Prod.mk.injEq] at h2
 rw [← h2.2.1]; exact h y h1
theorem zAs {l:List Plc} (h:∀ e ∈ l,0≤e.a.h) {p:Plc} (hp:0≤p.a.h):∀ e ∈ zlo l p,0≤e.a.h:=by
 intro e he
 rcases zt0 he with rfl | he
 ·exact hp
 ·exact h e he
theorem zBf {l:List Plc} (h:∀ e ∈ l,0≤e.a.h) (i:Nat):∀ e ∈ zgi l i,0≤e.a.h:=fun e he=>h e ((zeY _ _).subset he)
theorem zEn {b:Bk} (h:NnB b) {a:Adr} (ha:0≤a.h) (src:Int):NnB (zkS b a src).1:=by
 unfold zkS
 split
 ·exact ⟨h.1,zFz h.2 _ _⟩
 ·split
  ·exact ⟨zFz h.1 _ _,h.2⟩
  ·split
   ·split
    ·exact h
    ·exact ⟨zAs (zBf h.1 _) ha,h.2⟩
   ·exact ⟨zAs h.1 ha,h.2⟩
theorem zIj {b:Bk} (h:NnB b) {i:Nat} (hi:i < b.H.length):NnB (zvA b i b.H[i]):=by
 have hp:0≤(zfK b b.H[i]).a.h:=by rw [zrH]; exact h.1 _ (List.getElem_mem hi)
 unfold zvA
 split
 ·split
  ·rename_i o ho
   exact zEn ⟨zBf h.1 _,zAs (zBf h.2 _) hp⟩ (h.2 o (List.mem_of_getElem? ho)) _
  ·exact h
 ·exact ⟨zBf h.1 _,zAs h.2 hp⟩
end
section
set_option linter.unusedVariables false
set_option linter.unusedSimpArgs false
set_option maxRecDepth 100000
variable {β:Type}
def zbP (l:List Plc):List V:=(zT l).flatten
theorem zHx (l:List Plc):∀ e ∈ zT l,e.length=5:=by
 intro e he
 obtain ⟨x,_,rfl⟩:=List.mem_map.1 he
 rfl
theorem zkc (l:List Plc):(zbP l).length=l.length * 5:=by
 unfold zbP; rw [zbf (zHx l),zag]
theorem zCo (l m:List Plc):zbP (l++m)=zbP l++zbP m:=by simp [zbP,zT]
theorem zy4 {l:List Plc} {i:Nat} (hi:i < l.length):zbP l=zbP (l.take i)++(l[i].v++zbP (l.drop (i+1))):=by
 have e:l=l.take i++(l[i]::l.drop (i+1)):=by rw [← List.drop_eq_getElem_cons hi,List.take_append_drop]
 refine (congrArg zbP e).trans ?_
 rw [zCo]
 rfl
theorem zuX {l:List Plc} {i j:Nat} (hi:i < l.length) (hj:j≤5):(zbP l).drop (i * 5+j)=l[i].v.drop j++zbP (l.drop (i+1)):=by
 rw [zy4 hi]
 have e:(zbP (l.take i)).length=i * 5:=by rw [zkc,List.length_take]; congr 1; omega
 rw [List.drop_append,e,List.drop_of_length_le (by omega),List.nil_append,show i * 5+j - i * 5=j by omega,List.drop_append_of_le_length (by show j≤5; exact hj)]
theorem zHL {l:List Plc} {i j:Nat} (hi:i < l.length) (hj:j < 5):(zbP l)[i * 5+j]?=l[i].v[j]?:=by
 have:=zuX hi (Nat.le_of_lt hj)
 rw [← List.head?_drop,this,← List.head?_drop]
 rw [List.head?_append]
 cases h:(l[i].v.drop j).head? with
 | some x=>rfl
 | none =>
  rw [List.head?_drop,List.getElem?_eq_none_iff] at h
  have:l[i].v.length=5:=rfl
  omega
theorem zEk {l:List Plc} {i:Nat} (hi:i < l.length):List.take 3 (List.drop (i * 5+1) (zbP l))=l[i].a.v:=by
 rw [zuX hi (by omega)]; rfl
theorem zIi {l:List Plc} {i:Nat} (hi:i < l.length):List.take 5 (List.drop (i * 5) (zbP l))=l[i].v:=by
 rw [show i * 5=i * 5+0 from rfl,zuX hi (by omega)]; rfl
theorem zHC (A B x:List V) (j:Nat):zh (A++B) (A.length+j) x=A++zh B j x:=by
 unfold zh
 rw [List.take_length_add_append,Nat.add_assoc,List.drop_length_add_append]
 simp
theorem zCM {l:List Plc} {i:Nat} (hi:i < l.length) (t:Int):zh (zbP l) (i * 5+3) [V.sc (.int .u32 (zF7 l[i].a.t t))]=zbP (zvq l i t):=by
 have e:(zbP (l.take i)).length=i * 5:=by rw [zkc,List.length_take]; congr 1; omega
 have eb:zvq l i t=l.take i++(zIv t l[i]::l.drop (i+1)):=by
  unfold zvq
  rw [List.modify_eq_take_cons_drop hi]
 rw [eb,zCo,zy4 hi,← e,zHC]
 rfl
theorem zeT (l:List Plc):zl 5 l.length (zbP l)=zT l:=by
 have:=zxh (zHx l) (w:=l.length) (by rw [zag]; exact Nat.le_refl _)
 unfold zbP
 rw [this,List.take_of_length_le (by rw [zag]; exact Nat.le_refl _)]
theorem zDS (l:List Plc) (i:Nat) (t:Int):(zvq l i t).length=l.length:=by unfold zvq; simp
theorem zDJ {n:Nat} {l:List Plc} (h:n=l.length):zl 5 n (zbP l)=zT l:=by subst h; exact zeT l
theorem ztx (l:List Plc):(zbP l).isEmpty=l.isEmpty:=by
 cases l <;> rfl
theorem zH7 (L:Nat) (l:List Plc) (hl:l.length≤1000000) (v:Int) (kx:List (List V)→Int→Int→Option β):∀ (m i:Nat),i≤l.length→l.length - i < m →
  zeG L kx m (zT l) v (i:Int)=kx (zT l) v ((i+((l.drop i).takeWhile (fun x=>decide (x.b < v))).length:Nat):Int):=by
 intro m
 induction m with
 | zero=>intro i h1 h2; omega
 | succ m IH =>
  intro i h1 h2
  unfold zeG zkt
  rw [zag]
  by_cases h:i < l.length
  ·rw [zaz (by omega),zaB (zcJ h),yI (n:=l[i].b) rfl,zaA,List.drop_eq_getElem_cons h,List.takeWhile_cons]
   by_cases hb:l[i].b < v
   ·rw [if_pos hb,if_pos (decide_eq_true hb),zB,zac (by omega),List.length_cons]
    refine (IH (i+1) (by omega) (by omega)).trans ?_
    congr 2; omega
   ·rw [if_neg hb,if_neg (by simpa using hb)]; rfl
  ·rw [zaT (by omega),List.drop_of_length_le (by omega)]; rfl
theorem zKa (L:Nat) (l:List Plc) (hl:l.length≤1000000) (v f:Int) (kx:Int→Int→Option β):∀ (m i:Nat),i≤l.length→l.length - i < m →
  zdH L kx m (zT l) v f (i:Int)=kx f ((i+((l.drop i).takeWhile (fun x=>x.b == v)).length:Nat):Int):=by
 intro m
 induction m with
 | zero=>intro i h1 h2; omega
 | succ m IH =>
  intro i h1 h2
  unfold zdH zix
  rw [zag]
  by_cases h:i < l.length
  ·rw [zaz (by omega),zaB (zcJ h),yI (n:=l[i].b) rfl,zeg,List.drop_eq_getElem_cons h,List.takeWhile_cons]
   by_cases hb:l[i].b=v
   ·rw [if_pos hb,if_pos (beq_iff_eq.2 hb),zB,zac (by omega),List.length_cons]
    refine (IH (i+1) (by omega) (by omega)).trans ?_
    congr 2; omega
   ·rw [if_neg hb,if_neg (by simpa using hb)]; rfl
  ·rw [zaT (by omega),List.drop_of_length_le (by omega)]; rfl
theorem zpt (L:Nat) (l:List Plc) (hl:l.length≤1000000) (hL:l.length < L) (v:Int) (k:Int→Int→Option β):zf β L (zT l) v k=k ((zan l v:Nat):Int) ((toN l v:Nat):Int):=by
 have hf:=zxY l v
 unfold zf zkO zo2
 rw [show ((0:Int))=((0:Nat):Int) from rfl]
 refine (zH7 L l hl v _ L 0 (by omega) (by omega)).trans ?_
 rw [List.drop_zero,Nat.zero_add]
 refine (zKa L l hl v _ _ L (zan l v) (by omega) (by omega)).trans ?_
 rfl
theorem zzz {n m:Nat} (h:n≤1000000) (hm:m≤1000000):(n+m) * 24≤zt∧n+m≤zt:=by
 simp only [zt]; omega
theorem zsO (l:List Plc) (i:Nat):(zT l).take i=zT (l.take i):=by simp [zT,List.map_take]
theorem zCQ (l:List Plc) (i:Nat):(zT l).drop i=zT (l.drop i):=by simp [zT,List.map_drop]
theorem zJo (p:Plc):zl 5 1 (zh [(V.sc (.int .i64 (0:Int))),(V.sc (.int .u32 (0:Int))),(V.sc (.int .u16 (0:Int))),(V.sc (.int .u32 (0:Int))),(V.sc (.int .u32 (0:Int)))] 0 p.v)=zT [p]:=by
 rw [zdq (by rfl)]; rfl
theorem zCy (l:List Plc) (i:Nat):List.take (l.length - i) (List.drop i l)=List.drop i l:=List.take_of_length_le (by simp)
theorem zmz (L:Nat) (l:List Plc) (hl:l.length≤900000) (hL:l.length < L) (p:Plc) (k:List (List V)→Option β):xe β L (zT l) p.v k=k (zT (zlo l p)):=by
 have hf:=zxY l p.b
 have e1:List.take 5 p.v=p.v:=rfl
 unfold xe zo4
 rw [yI (n:=p.b) rfl,zpt L l (by omega) hL,zag,ze (by omega),Nat.sub_zero,Int.toNat_natCast,List.drop_zero,zsO,zag,ze (zzz (by simp) (by simp; omega)),zB,List.nil_append,ze (by show 0+5≤5; omega),e1,ze ⟨rfl,by omega⟩,zJo,zag,zag,ze (zzz (by simp; omega) (by simp)),zB,zzd,ze (by omega),zCQ,zsO,zag,zag,ze (zzz (by simp; omega) (by simp; omega)),zB,zzd,zCy]
 rfl
theorem zwZ (L:Nat) (l:List Plc) (hl:l.length≤900000) (i:Nat) (hi:i < l.length) (k:List (List V)→Option β):yf β L (zT l) (i:Int) k=k (zT (zgi l i)):=by
 unfold yf zoC
 rw [zag,ze (by omega),Nat.sub_zero,Int.toNat_natCast,List.drop_zero,zsO,zag,ze (zzz (by simp) (by simp; omega)),zB,List.nil_append,zB,zac (by omega),ze (by omega),Int.toNat_natCast,zCQ,zsO,zag,zag,ze (zzz (by simp; omega) (by simp; omega)),zB,zzd,zCy]
 rfl
theorem zGb (L:Nat) (ps:List Plc) (hp:ps.length≤1000000) (a:Adr) (kr:Int→List V→Option β) (kx:List V→Option β) (k:Int→List V→Option β) (hr:∀ i b,kr i b=k i b) (hx:∀ b,kx b=k (-1) b):∀ (m i:Nat),i≤ps.length→ps.length - i < m →
  zeH xg L kr kx m ps.length (i:Int) (zbP ps) a.v=k (ze2 (fun e=>zL e.a a) (ps.drop i) i) (zbP ps):=by
 intro m
 induction m with
 | zero=>intro i h1 h2; omega
 | succ m IH =>
  intro i h1 h2
  unfold zeH zkv
  by_cases h:i < ps.length
  ·have e1:0+Int.toNat (i:Int) * 5+1=i * 5+1:=by rw [Int.toNat_natCast]; omega
   rw [zaz (by omega),ze (by omega),e1,ze (by rw [zkc]; omega),ze (by show 0+3≤3; omega),zEk h,zjK,zFy,List.drop_eq_getElem_cons h,ze2,zB,zac (by omega)]
   have ih:=IH (i+1) (by omega) (by omega)
   cases zL ps[i].a a with
   | true=>exact hr _ _
   | false=>exact ih
  ·rw [zaT (by omega),List.drop_of_length_le (by omega),hx]; rfl
theorem zEe (L:Nat) (ps:List Plc) (hp:ps.length≤1000000) (hL:ps.length < L) (a:Adr) (k:Int→List V→Option β):xh β L ps.length a.v (zbP ps) k=k (ze2 (fun e=>zL e.a a) ps 0) (zbP ps):=by
 unfold xh zkI zoP
 rw [show ((0:Int))=((0:Nat):Int) from rfl]
 refine (zGb L ps hp a _ _ k (fun _ _=>rfl) (fun _=>rfl) L 0 (by omega) (by omega)).trans ?_
 rfl
theorem y6 (b:Bk) (j:Nat) (h:j < 32) (k:Int→Option β):cI .u8 b.v j k=k (b.salt.getD j 0):=by
 refine yI ?_ k
 have hs:=b.hs
 rw [Bk.v,List.getElem?_append_left (by rw [zcD]; omega),row,List.getElem?_map,List.getD_eq_getElem?_getD,List.getElem?_eq_getElem (by omega)]
 rfl
theorem zIk:∀ (s:List Int),s.length=32→row .u8 s=[V.sc (.int .u8 (s.getD 0 0)),V.sc (.int .u8 (s.getD 1 0)),V.sc (.int .u8 (s.getD 2 0)),V.sc (.int .u8 (s.getD 3 0)),V.sc (.int .u8 (s.getD 4 0)),V.sc (.int .u8 (s.getD 5 0)),V.sc (.int .u8 (s.getD 6 0)),V.sc (.int .u8 (s.getD 7 0)),V.sc (.int .u8 (s.getD 8 0)),V.sc (.int .u8 (s.getD 9 0)),V.sc (.int .u8 (s.getD 10 0)),V.sc (.int .u8 (s.getD 11 0)),V.sc (.int .u8 (s.getD 12 0)),V.sc (.int .u8 (s.getD 13 0)),V.sc (.int .u8 (s.getD 14 0)),V.sc (.int .u8 (s.getD 15 0)),V.sc (.int .u8 (s.getD 16 0)),V.sc (.int .u8 (s.getD 17 0)),V.sc (.int .u8 (s.getD 18 0)),V.sc (.int .u8 (s.getD 19 0)),V.sc (.int .u8 (s.getD 20 0)),V.sc (.int .u8 (s.getD 21 0)),V.sc (.int .u8 (s.getD 22 0)),V.sc (.int .u8 (s.getD 23 0)),V.sc (.int .u8 (s.getD 24 0)),V.sc (.int .u8 (s.getD 25 0)),V.sc (.int .u8 (s.getD 26 0)),V.sc (.int .u8 (s.getD 27 0)),V.sc (.int .u8 (s.getD 28 0)),V.sc (.int .u8 (s.getD 29 0)),V.sc (.int .u8 (s.getD 30 0)),V.sc (.int .u8 (s.getD 31 0))]
 | [x0,x1,x2,x3,x4,x5,x6,x7,x8,x9,x10,x11,x12,x13,x14,x15,x16,x17,x18,x19,x20,x21,x22,x23,x24,x25,x26,x27,x28,x29,x30,x31],_=>rfl
theorem Bk.cells (b:Bk):[V.sc (.int .u8 (b.salt.getD 0 0)),V.sc (.int .u8 (b.salt.getD 1 0)),V.sc (.int .u8 (b.salt.getD 2 0)),V.sc (.int .u8 (b.salt.getD 3 0)),V.sc (.int .u8 (b.salt.getD 4 0)),V.sc (.int .u8 (b.salt.getD 5 0)),V.sc (.int .u8 (b.salt.getD 6 0)),V.sc (.int .u8 (b.salt.getD 7 0)),V.sc (.int .u8 (b.salt.getD 8 0)),V.sc (.int .u8 (b.salt.getD 9 0)),V.sc (.int .u8 (b.salt.getD 10 0)),V.sc (.int .u8 (b.salt.getD 11 0)),V.sc (.int .u8 (b.salt.getD 12 0)),V.sc (.int .u8 (b.salt.getD 13 0)),V.sc (.int .u8 (b.salt.getD 14 0)),V.sc (.int .u8 (b.salt.getD 15 0)),V.sc (.int .u8 (b.salt.getD 16 0)),V.sc (.int .u8 (b.salt.getD 17 0)),V.sc (.int .u8 (b.salt.getD 18 0)),V.sc (.int .u8 (b.salt.getD 19 0)),V.sc (.int .u8 (b.salt.getD 20 0)),V.sc (.int .u8 (b.salt.getD 21 0)),V.sc (.int .u8 (b.salt.getD 22 0)),V.sc (.int .u8 (b.salt.getD 23 0)),V.sc (.int .u8 (b.salt.getD 24 0)),V.sc (.int .u8 (b.salt.getD 25 0)),V.sc (.int .u8 (b.salt.getD 26 0)),V.sc (.int .u8 (b.salt.getD 27 0)),V.sc (.int .u8 (b.salt.getD 28 0)),V.sc (.int .u8 (b.salt.getD 29 0)),V.sc (.int .u8 (b.salt.getD 30 0)),V.sc (.int .u8 (b.salt.getD 31 0))]=row .u8 b.salt:=(zIk b.salt b.hs).symm
theorem Bk.mk_v (b:Bk) (x y:List (List V)):[V.sc (.int .u8 (b.salt.getD 0 0)),V.sc (.int .u8 (b.salt.getD 1 0)),V.sc (.int .u8 (b.salt.getD 2 0)),V.sc (.int .u8 (b.salt.getD 3 0)),V.sc (.int .u8 (b.salt.getD 4 0)),V.sc (.int .u8 (b.salt.getD 5 0)),V.sc (.int .u8 (b.salt.getD 6 0)),V.sc (.int .u8 (b.salt.getD 7 0)),V.sc (.int .u8 (b.salt.getD 8 0)),V.sc (.int .u8 (b.salt.getD 9 0)),V.sc (.int .u8 (b.salt.getD 10 0)),V.sc (.int .u8 (b.salt.getD 11 0)),V.sc (.int .u8 (b.salt.getD 12 0)),V.sc (.int .u8 (b.salt.getD 13 0)),V.sc (.int .u8 (b.salt.getD 14 0)),V.sc (.int .u8 (b.salt.getD 15 0)),V.sc (.int .u8 (b.salt.getD 16 0)),V.sc (.int .u8 (b.salt.getD 17 0)),V.sc (.int .u8 (b.salt.getD 18 0)),V.sc (.int .u8 (b.salt.getD 19 0)),V.sc (.int .u8 (b.salt.getD 20 0)),V.sc (.int .u8 (b.salt.getD 21 0)),V.sc (.int .u8 (b.salt.getD 22 0)),V.sc (.int .u8 (b.salt.getD 23 0)),V.sc (.int .u8 (b.salt.getD 24 0)),V.sc (.int .u8 (b.salt.getD 25 0)),V.sc (.int .u8 (b.salt.getD 26 0)),V.sc (.int .u8 (b.salt.getD 27 0)),V.sc (.int .u8 (b.salt.getD 28 0)),V.sc (.int .u8 (b.salt.getD 29 0)),V.sc (.int .u8 (b.salt.getD 30 0)),V.sc (.int .u8 (b.salt.getD 31 0)),(V.sl 5 x),(V.sl 5 y)]=row .u8 b.salt++[.sl 5 x,.sl 5 y]:=by
 rw [← b.cells]; rfl
theorem zCg (L:Nat) (b:Bk) (hH:b.H.length≤1000000) (hT:b.T.length≤1000000) (k:zk5 β):yg β L b.v k=k (b.salt.getD 0 0) (b.salt.getD 1 0) (b.salt.getD 2 0) (b.salt.getD 3 0) (b.salt.getD 4 0) (b.salt.getD 5 0) (b.salt.getD 6 0) (b.salt.getD 7 0) (b.salt.getD 8 0) (b.salt.getD 9 0) (b.salt.getD 10 0) (b.salt.getD 11 0) (b.salt.getD 12 0) (b.salt.getD 13 0) (b.salt.getD 14 0) (b.salt.getD 15 0) (b.salt.getD 16 0) (b.salt.getD 17 0) (b.salt.getD 18 0) (b.salt.getD 19 0) (b.salt.getD 20 0) (b.salt.getD 21 0) (b.salt.getD 22 0) (b.salt.getD 23 0) (b.salt.getD 24 0) (b.salt.getD 25 0) (b.salt.getD 26 0) (b.salt.getD 27 0) (b.salt.getD 28 0) (b.salt.getD 29 0) (b.salt.getD 30 0) (b.salt.getD 31 0) b.H.length b.T.length (zbP b.H) (zbP b.T):=by
 unfold yg zoE
 rw [ze b.len,y6 b 0 (by omega),y6 b 1 (by omega),y6 b 2 (by omega),y6 b 3 (by omega),y6 b 4 (by omega),y6 b 5 (by omega),y6 b 6 (by omega),y6 b 7 (by omega),y6 b 8 (by omega),y6 b 9 (by omega),y6 b 10 (by omega),y6 b 11 (by omega),y6 b 12 (by omega),y6 b 13 (by omega),y6 b 14 (by omega),y6 b 15 (by omega),y6 b 16 (by omega),y6 b 17 (by omega),y6 b 18 (by omega),y6 b 19 (by omega),y6 b 20 (by omega),y6 b 21 (by omega),y6 b 22 (by omega),y6 b 23 (by omega),y6 b 24 (by omega),y6 b 25 (by omega),y6 b 26 (by omega),y6 b 27 (by omega),y6 b 28 (by omega),y6 b 29 (by omega),y6 b 30 (by omega),y6 b 31 (by omega)]
 have g1:∀ k:List (List V)→Option β,cL 5 b.v 32 k=k (zT b.H):=zx1 b.g32
 have g2:∀ k:List (List V)→Option β,cL 5 b.v 33 k=k (zT b.T):=zx1 b.g33
 rw [g1,g2,zag,zag,ze (zzz (by simp) hH),ze (zzz (by simp) hT)]
 rfl
end
section
set_option linter.unusedVariables false
set_option linter.unusedSimpArgs false
set_option maxRecDepth 100000
variable {β:Type}
theorem zzE {l:List Plc} {a:Adr} (h:ze2 (fun x=>zL x.a a) l 0 ≥ 0):∃ j:Nat,j < l.length∧ze2 (fun x=>zL x.a a) l 0=(j:Int):=by
 rcases zpB (fun x:Plc=>zL x.a a) l 0 with ⟨h1,h2⟩ | ⟨j,hj,h1,h2,h3⟩
 ·omega
 ·exact ⟨j,hj,by rw [h1,Nat.zero_add]⟩
theorem at3 (j:Nat):0+Int.toNat (j:Int) * 5+1+2=j * 5+3:=by rw [Int.toNat_natCast]; omega
theorem cT {l:List Plc} {j:Nat} (h:j < l.length) (k:Int→Option β):cI .u32 (zbP l) (j * 5+3) k=k l[j].a.t:=by
 refine yI ?_ k
 rw [zHL h (by omega)]; rfl
theorem zw1 {l:List Plc} {j:Nat} (h:j < l.length):zxM l j=l[j].a.t:=by
 unfold zxM; rw [List.getElem?_eq_getElem h]
theorem zKJ (v:Int) (a:Adr) (s:Int):zh [(V.sc (.int .i64 (0:Int))),(V.sc (.int .u32 (0:Int))),(V.sc (.int .u16 (0:Int))),(V.sc (.int .u32 (0:Int))),(V.sc (.int .u32 (0:Int)))] 0 (zh (zh [(V.sc (.int .i64 v)),(V.sc (.int .u32 (0:Int))),(V.sc (.int .u16 (0:Int))),(V.sc (.int .u32 (0:Int))),(V.sc (.int .u32 (0:Int)))] 1 a.v) 4 [(V.sc (.int .u32 s))])=(⟨v,a,s⟩:Plc).v:=rfl
theorem zuI (p:Plc):List.take 5 p.v=p.v:=rfl
theorem zFS (L:Nat) (b:Bk) (hH:b.H.length≤1000000) (z:Nat) (hz:z≤b.H.length) (b4 p:List V) (tl:Nat) (tf:List V) (kx:zmq β):∀ (m i c:Nat),i≤z→z - i < m→c < b.H.length →
  zb3 yg xh zb zf xe yf L kx m (z:Int) (c:Int) (i:Int) b4 0 0 0 0 0 0 0 0 0 0 0 0 0 0 0 0 0 0 0 0 0 0 0 0 0 0 0 0 0 0 0 0 [] [] (b.salt.getD 0 0) (b.salt.getD 1 0) (b.salt.getD 2 0) (b.salt.getD 3 0) (b.salt.getD 4 0) (b.salt.getD 5 0) (b.salt.getD 6 0) (b.salt.getD 7 0) (b.salt.getD 8 0) (b.salt.getD 9 0) (b.salt.getD 10 0) (b.salt.getD 11 0) (b.salt.getD 12 0) (b.salt.getD 13 0) (b.salt.getD 14 0) (b.salt.getD 15 0) (b.salt.getD 16 0) (b.salt.getD 17 0) (b.salt.getD 18 0) (b.salt.getD 19 0) (b.salt.getD 20 0) (b.salt.getD 21 0) (b.salt.getD 22 0) (b.salt.getD 23 0) (b.salt.getD 24 0) (b.salt.getD 25 0) (b.salt.getD 26 0) (b.salt.getD 27 0) (b.salt.getD 28 0) (b.salt.getD 29 0) (b.salt.getD 30 0) (b.salt.getD 31 0) b.H.length tl p (zbP b.H) tf
   = kx ((zlN b.H (z - i) i c:Nat):Int) b4 0 0 0 0 0 0 0 0 0 0 0 0 0 0 0 0 0 0 0 0 0 0 0 0 0 0 0 0 0 0 0 0 [] [] (b.salt.getD 0 0) (b.salt.getD 1 0) (b.salt.getD 2 0) (b.salt.getD 3 0) (b.salt.getD 4 0) (b.salt.getD 5 0) (b.salt.getD 6 0) (b.salt.getD 7 0) (b.salt.getD 8 0) (b.salt.getD 9 0) (b.salt.getD 10 0) (b.salt.getD 11 0) (b.salt.getD 12 0) (b.salt.getD 13 0) (b.salt.getD 14 0) (b.salt.getD 15 0) (b.salt.getD 16 0) (b.salt.getD 17 0) (b.salt.getD 18 0) (b.salt.getD 19 0) (b.salt.getD 20 0) (b.salt.getD 21 0) (b.salt.getD 22 0) (b.salt.getD 23 0) (b.salt.getD 24 0) (b.salt.getD 25 0) (b.salt.getD 26 0) (b.salt.getD 27 0) (b.salt.getD 28 0) (b.salt.getD 29 0) (b.salt.getD 30 0) (b.salt.getD 31 0) b.H.length tl p (zbP b.H) tf:=by
 intro m
 induction m with
 | zero=>intro i c h1 h2 h3; omega
 | succ m IH =>
  intro i c h1 h2 h3
  unfold zb3 zeF
  by_cases h:i < z
  ·have hi:i < b.H.length:=by omega
   rw [zaz (by omega),ze (by omega),at3,cT hi,ze (by omega),at3,cT h3,zaA,show z - i=(z - (i+1))+1 by omega,zlN,zw1 hi,zw1 h3]
   by_cases ht:b.H[i].a.t < b.H[c].a.t
   ·rw [if_pos ht,if_pos ht,zB,zac (by omega)]
    exact IH (i+1) i (by omega) (by omega) hi
   ·rw [if_neg ht,if_neg ht,zB,zac (by omega)]
    exact IH (i+1) c (by omega) (by omega) h3
  ·rw [zaT (by omega),show z - i=0 by omega]; rfl
theorem Bk.v_mk (b:Bk) (H T:List Plc):row .u8 b.salt++[V.sl 5 (zT H),V.sl 5 (zT T)]=(⟨b.salt,H,T,b.hs⟩:Bk).v:=rfl
theorem zFA (L:Nat) (hL:200000 < L) (b:Bk) (hH:b.H.length≤100000) (hT:b.T.length≤100000) (a:Adr) (src:Int) (k:List V→Bool→Option β):yC β (L+100) b.v a.v src k=k (zkS b a src).1.v (zkS b a src).2:=by
 unfold yC zn0 zrP
 rw [ze (by rw [b.len]; omega),b.take,b.dem,zCg _ b (by omega) (by omega),ze (by show 0+3≤3; omega),zjK,zEe _ b.T (by omega) (by omega),ze rfl,zaA]
 unfold zkS
 by_cases h:ze2 (fun x=>zL x.a a) b.T 0 ≥ 0
 ·obtain ⟨j,hj,e⟩:=zzE h
  rw [if_pos h,if_pos h,e,ze (by omega),at3,cT hj,yI (n:=a.t) rfl,zB,ze (by omega),ze ⟨rfl,by rw [zkc]; omega⟩,zB,zCM hj,zeT,zDJ (zDS _ _ _).symm,b.mk_v,b.v_mk,Int.toNat_natCast]
 ·rw [if_neg h,if_neg h,ze (by show 0+3≤3; omega),zEe _ b.H (by omega) (by omega),ze rfl,zaA]
  by_cases h':ze2 (fun x=>zL x.a a) b.H 0 ≥ 0
  ·obtain ⟨j,hj,e⟩:=zzE h'
   rw [if_pos h',if_pos h',e,ze (by omega),at3,cT hj,yI (n:=a.t) rfl,zB,ze (by omega),ze ⟨rfl,by rw [zkc]; omega⟩,zB,zCM hj,zeT,zDJ (zDS _ _ _).symm,b.mk_v,b.v_mk,Int.toNat_natCast]
  ·rw [if_neg h',if_neg h',ze (by rw [b.len]; omega),ze (by show 0+3≤3; omega),b.t32,zIP L b.salt b.hs]
   generalize hbk b.salt a src=v
   have hr:=zxY b.H v
   rw [ze (by show 0+3≤3; omega),ze ⟨rfl,by omega⟩,ze (by show 1=1∧4+1≤5; omega),ze ⟨rfl,by omega⟩,zKJ,zB,yI (n:=v) rfl,ztx]
   cases he:b.H.isEmpty with
   | true =>
    have hn:b.H=[]:=by simpa using he
    have hlen:b.H.length=0:=by rw [hn]; rfl
    rw [ze0,zeT,zpt _ b.H (by omega) (by omega),zB,zai (by omega) (by omega),zaA,if_neg (by omega),if_neg (by omega),ze (by show 0+5≤5; omega),ze0,zuI,zmz _ b.H (by omega) (by omega),zeT,b.mk_v,b.v_mk]
   | false =>
    rw [zaL,zeT,zpt _ b.H (by omega) (by omega),zB,zai (by omega) (by omega),zaA]
    by_cases h8:toN b.H v - zan b.H v ≥ 8
    ·rw [if_pos (by omega),if_pos h8]
     refine (zFS (L+100) b (by omega) (toN b.H v) hr.2 a.v _ _ _ _ (L+100) (zan b.H v) (zan b.H v) hr.1 (by omega) (by omega)).trans ?_
     have hm:=zna b.H (zan b.H v) (toN b.H v) (toN b.H v - zan b.H v) (zan b.H v) (zan b.H v) (Nat.le_refl _) (by omega) (Nat.le_refl _) (by omega)
     generalize zlN b.H (toN b.H v - zan b.H v) (zan b.H v) (zan b.H v)=m at hm ⊢
     have hml:m < b.H.length:=by omega
     unfold zdz
     rw [ze (by omega),at3,cT hml,yI (n:=a.t) rfl,zaA,zw1 hml]
     by_cases ht:b.H[m].a.t ≥ a.t
     ·rw [if_pos ht,if_pos ht,zeT,zeT,b.mk_v,b.v_mk]
     ·have hlr:(zgi b.H m).length≤b.H.length:=(zeY _ _).length_le
      rw [if_neg ht,if_neg ht,zeT,zwZ _ b.H (by omega) m hml,ze (by show 0+5≤5; omega),zuI,zmz _ (zgi b.H m) (by omega) (by omega),zeT,b.mk_v,b.v_mk]
    ·rw [if_neg (by omega),if_neg h8,ze (by show 0+5≤5; omega),zuI,zmz _ b.H (by omega) (by omega),zeT,b.mk_v,b.v_mk]
end
end Go.Proofs.Ytpafdnidhnldhaa
