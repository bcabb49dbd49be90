/- Part 12 of the proof of ConnectChooses: an abstract machine over plain values, its soundness, and the functions of the program on plain values. -/
import Derived.Test.YtpafdnidhnldhaaMConnectChooses11
namespace Go.Proofs.Ytpafdnidhnldhaa
section
set_option linter.unusedVariables false
set_option maxRecDepth 100000
variable {β:Type}
def zlV (m:Int) (i:Nat):List Int→Int
 | []=>m
 | b::bs=>zlV (ior .u64 m (zsX .u64 (IntKind.wrap .u64 b) (IntKind.wrap .i64 (8 * (i:Int))))) (i+1) bs
theorem zyU (L:Nat) (kx:Int→Option β) (l:List Int) (hl:l.length≤1000000):∀ (n:Nat) (m:Int) (i:Nat),i≤l.length→l.length - i < n→ziw L kx n m (zbm .u8 l) (l.length:Int) (i:Int)=kx (zlV m i (l.drop i))
 | 0,m,i,hi,hn=>by omega
 | n+1,m,i,hi,hn=>by
  simp only [ziw,zpQ,yC]
  by_cases h:i < l.length
  ·rw [y6 (by omega),y4 (zyd _ h),xM (by rfl),zf (by rw [zZ (by omega) (by omega)]; omega)]
   rw [show IntKind.wrap .i64 ((i:Int)+1)=((i+1:Nat):Int) by rw [zZ (by omega) (by omega)]; omega]
   rw [zyU L kx l hl n _ (i+1) (by omega) (by omega),List.drop_eq_getElem_cons h]
   rfl
  ·rw [zao (by omega),List.drop_of_length_le (by omega)]
   rfl
theorem zx4 (L:Nat) (l:List Int) (hl:l.length≤1000000) (hL:l.length < L) (k:Int→Option β):xz β L (zbm .u8 l) k=k (zlV 0 0 l):=by
 simp only [xz,zt4,zyp,zgA]
 exact zyU L _ l hl L 0 0 (by omega) (by omega)
theorem zyR (L:Nat) (kx:Int→Option β) (l:List Int) (hl:l.length≤1000000):∀ (n:Nat) (m:Int) (i:Nat),i≤l.length→l.length - i < n→zgN L kx n (zbm .u8 l) m (l.length:Int) (i:Int)=kx (zlV m i (l.drop i))
 | 0,m,i,hi,hn=>by omega
 | n+1,m,i,hi,hn=>by
  simp only [zgN,zod,yC]
  by_cases h:i < l.length
  ·rw [y6 (by omega),y4 (zyd _ h),xM (by rfl),zf (by rw [zZ (by omega) (by omega)]; omega)]
   rw [show IntKind.wrap .i64 ((i:Int)+1)=((i+1:Nat):Int) by rw [zZ (by omega) (by omega)]; omega]
   rw [zyR L kx l hl n _ (i+1) (by omega) (by omega),List.drop_eq_getElem_cons h]
   rfl
  ·rw [zao (by omega),List.drop_of_length_le (by omega)]
   rfl
theorem zx0 (L:Nat) (l:List Int) (hl:l.length≤1000000) (hL:l.length < L) (k:Int→Option β):zu β L (zbm .u8 l) k=k (zlV 0 0 l):=by
 simp only [zu,zq6,zuo,zgA]
 exact zyR L _ l hl L 0 0 (by omega) (by omega)
theorem zCS (L:Nat) (hL:8 < L) (l:List Int) (h:l.length=32) (k:List V→Option β):zak β L (row .u8 l) k=k (row .u64 [zlV 0 0 (l.take 8),zlV 0 0 ((l.drop 8).take 8)])∧yV β L (row .u8 l) k=k (row .u64 [zlV 0 0 (l.take 8),zlV 0 0 ((l.drop 8).take 8)]):=by
 constructor
 ·simp only [zak,zzY,yC,zdl,h,zGG]
  rw [zf (by decide),zqs _ _ _ (by omega),zx4 _ _ (by simp; omega) (by simp; omega),zf (by decide),zqs _ _ _ (by simp; omega),zx4 _ _ (by simp; omega) (by simp; omega),zf (by simp)]
  rfl
 ·simp only [yV,zwf,yC,zdl,h,zGG]
  rw [zf (by decide),zqs _ _ _ (by omega),zx0 _ _ (by simp; omega) (by simp; omega),zf (by decide),zqs _ _ _ (by simp; omega),zx0 _ _ (by simp; omega) (by simp; omega),zf (by simp)]
  rfl
end
section
set_option linter.unusedVariables false
set_option linter.unusedSimpArgs false
set_option maxRecDepth 100000
variable {β:Type}
theorem zsP {inst:Decidable ((4:Nat)≠0)} (k:Option β):@chk β ((4:Nat)≠0) inst k=k:=if_pos (by omega)
structure S4 where
 a:Int
 b:Int
 c:Int
 d:Int
def S4.row (s:S4):List V:=[.sc (.int .u64 s.a),.sc (.int .u64 s.b),.sc (.int .u64 s.c),.sc (.int .u64 s.d)]
def zuB (x n:Int):Int:=ior .u64 (zsX .u64 x (zKk .u64 (IntKind.wrap .u64 n) 63)) (zr5 .u64 x (IntKind.wrap .u64 (64 - zKk .u64 (IntKind.wrap .u64 n) 63)))
theorem zKQ (L:Nat) (x:Int) (k:Int→Option β):xe β L x 13 k=k (zuB x 13):=by kernel_rfl
theorem zKJ (L:Nat) (x:Int) (k:Int→Option β):xe β L x 32 k=k (zuB x 32):=by kernel_rfl
theorem zKN (L:Nat) (x:Int) (k:Int→Option β):xe β L x 16 k=k (zuB x 16):=by kernel_rfl
theorem zKO (L:Nat) (x:Int) (k:Int→Option β):xe β L x 21 k=k (zuB x 21):=by kernel_rfl
theorem zKI (L:Nat) (x:Int) (k:Int→Option β):xe β L x 17 k=k (zuB x 17):=by kernel_rfl
def r1 (s:S4):S4:=⟨IntKind.wrap .u64 (s.a+s.b),s.b,s.c,s.d⟩
def r2 (s:S4):S4:=⟨s.a,zbI .u64 (zuB s.b 13) s.a,s.c,s.d⟩
def r3 (s:S4):S4:=⟨zuB s.a 32,s.b,s.c,s.d⟩
def r4 (s:S4):S4:=⟨s.a,s.b,IntKind.wrap .u64 (s.c+s.d),s.d⟩
def r5 (s:S4):S4:=⟨s.a,s.b,s.c,zbI .u64 (zuB s.d 16) s.c⟩
def r6 (s:S4):S4:=⟨IntKind.wrap .u64 (s.a+s.d),s.b,s.c,s.d⟩
def r7 (s:S4):S4:=⟨s.a,s.b,s.c,zbI .u64 (zuB s.d 21) s.a⟩
def r8 (s:S4):S4:=⟨s.a,s.b,IntKind.wrap .u64 (s.c+s.b),s.d⟩
def r9 (s:S4):S4:=⟨s.a,zbI .u64 (zuB s.b 17) s.c,s.c,s.d⟩
def r10 (s:S4):S4:=⟨s.a,s.b,zuB s.c 32,s.d⟩
def rnd (s:S4):S4:=r10 (r9 (r8 (r7 (r6 (r5 (r4 (r3 (r2 (r1 s)))))))))
theorem c0 (s:S4) (k:Int→Option β):cI .u64 s.row 0 k=k s.a:=by cases s; rfl
theorem c1 (s:S4) (k:Int→Option β):cI .u64 s.row 1 k=k s.b:=by cases s; rfl
theorem c2 (s:S4) (k:Int→Option β):cI .u64 s.row 2 k=k s.c:=by cases s; rfl
theorem c3 (s:S4) (k:Int→Option β):cI .u64 s.row 3 k=k s.d:=by cases s; rfl
theorem zIl (s:S4) (x:Int):yk s.row 0 [.sc (.int .u64 x)]=S4.row ⟨x,s.b,s.c,s.d⟩:=by cases s; rfl
theorem zL1 (s:S4) (x:Int):yk s.row 1 [.sc (.int .u64 x)]=S4.row ⟨s.a,x,s.c,s.d⟩:=by cases s; rfl
theorem zHX (s:S4) (x:Int):yk s.row 2 [.sc (.int .u64 x)]=S4.row ⟨s.a,s.b,x,s.d⟩:=by cases s; rfl
theorem zIM (s:S4) (x:Int):yk s.row 3 [.sc (.int .u64 x)]=S4.row ⟨s.a,s.b,s.c,x⟩:=by cases s; rfl
theorem zu9 (s t:S4):yk s.row 0 t.row=t.row:=by cases s; cases t; rfl
theorem zIk (z0 z1 z2 z3:Int) (t:S4):yk [V.sc (.int .u64 z0),V.sc (.int .u64 z1),V.sc (.int .u64 z2),V.sc (.int .u64 z3)] 0 t.row=t.row:=by cases t; rfl
theorem zo9 (s:S4):s.row.length=4:=by cases s; rfl
theorem zq9 (s:S4):s.row.take 4=s.row:=by cases s; rfl
theorem zFy (L:Nat) (s:S4) (k:List V→Option β):xq β L s.row k=k (rnd s).row:=by
 simp only [xq,zth,yC,c0,c1,c2,c3,zIl,zL1,zHX,zIM,zKQ,zKJ,zKN,zKO,zKI,zo9,zq9,zIk]
 repeat rw [zf (by decide)]
 rfl
theorem zJC (L:Nat) (p5 p6:Int) (s:S4) (z0 z1 z2 z3:Int) (kh:Int→Int→List V→Int→Int→Int→Int→Option β) (kx:List V→Int→Int→Int→Int→Option β) (h:p6 < p5):zhI xe L p5 p6 s.row z0 z1 z2 z3 kh kx=kh p5 (IntKind.wrap .i64 (p6+1)) (rnd s).row z0 z1 z2 z3:=by
 simp only [zhI,yC,c0,c1,c2,c3,zIl,zL1,zHX,zIM,zKQ,zKJ,zKN,zKO,zKI,zo9,zsP,zoG,true_and,and_true,and_self,Nat.reduceAdd,Nat.reduceMul,Nat.reduceLeDiff,Nat.le_refl,Nat.zero_add]
 rw [y6 h]
 simp only [rnd,r1,r2,r3,r4,r5,r6,r7,r8,r9,r10]
def zEi:Nat→S4→S4
 | 0,s=>s
 | n+1,s=>zEi n (rnd s)
theorem zvL (L:Nat) (kx:List V→Int→Int→Int→Int→Option β) (z0 z1 z2 z3:Int) (m:Nat) (hm:m≤1000):∀ (n i:Nat) (s:S4),i≤m→m - i < n→zhE xe L kx n (m:Int) (i:Int) s.row z0 z1 z2 z3=kx (zEi (m - i) s).row z0 z1 z2 z3
 | 0,i,s,hi,hn=>by omega
 | n+1,i,s,hi,hn=>by
  simp only [zhE]
  by_cases h:i < m
  ·rw [zJC _ _ _ _ _ _ _ _ _ _ (by omega)]
   rw [show IntKind.wrap .i64 ((i:Int)+1)=((i+1:Nat):Int) by rw [zZ (by omega) (by omega)]; omega]
   rw [zvL L kx z0 z1 z2 z3 m hm n (i+1) _ (by omega) (by omega),show m - i=(m - (i+1))+1 by omega]
   rfl
  ·simp only [zhI]
   rw [zao (by omega),show m - i=0 by omega]
   rfl
theorem zDo (L:Nat) (s:S4) (m:Nat) (hm:m≤1000) (hL:m < L) (k:List V→Option β):xv β L s.row (m:Int) k=k (zEi m s).row:=by
 simp only [xv,zpT,zuR]
 rw [show (0:Int)=((0:Nat):Int) from rfl,zvL L _ _ _ _ _ m hm L 0 s (by omega) (by omega)]
 simp only [zmh,yC,zo9,zq9,Nat.sub_zero,zIk,zsP,zoG,true_and,and_true,and_self,Nat.reduceAdd,Nat.reduceMul,Nat.reduceLeDiff,Nat.le_refl,Nat.zero_add]
def zu8 (s:S4) (m:Int):S4:=⟨zbI .u64 (rnd (rnd ⟨s.a,s.b,s.c,zbI .u64 s.d m⟩)).a m,(rnd (rnd ⟨s.a,s.b,s.c,zbI .u64 s.d m⟩)).b,(rnd (rnd ⟨s.a,s.b,s.c,zbI .u64 s.d m⟩)).c,(rnd (rnd ⟨s.a,s.b,s.c,zbI .u64 s.d m⟩)).d⟩
theorem zDH (L:Nat) (hL:2 < L) (s:S4) (m:Int) (k:List V→Option β):xB β L s.row m k=k (zu8 s m).row:=by
 simp only [xB,zuQ,yC,c3,zIM,zo9,zq9,zsP,zoG,true_and,and_true,and_self,Nat.reduceAdd,Nat.reduceMul,Nat.reduceLeDiff,Nat.le_refl,Nat.zero_add]
 rw [show (2:Int)=((2:Nat):Int) from rfl,zDo L _ 2 (by omega) hL]
 simp only [zo9,zu9,c0,zIl,zq9,zIk,zEi,zu8,zsP,zoG,true_and,and_true,and_self,Nat.reduceAdd,Nat.reduceMul,Nat.reduceLeDiff,Nat.le_refl,Nat.zero_add]
theorem zDA (L:Nat) (s:S4) (m:Int) (k:List V→Option β):yx β L s.row m k=k (zu8 s m).row:=by
 simp only [yx,zry,yC,c3,zIM,zo9,zq9,zFy,zu9,c0,zIl,zIk,zu8,zsP,zoG,true_and,and_true,and_self,Nat.reduceAdd,Nat.reduceMul,Nat.reduceLeDiff,Nat.le_refl,Nat.zero_add]
def zux:Nat→S4→List Int→S4
 | 0,s,_=>s
 | n+1,s,l=>zux n (zu8 s (zlV 0 0 (l.take 8))) (l.drop 8)
def zIL (s:S4) (n:Int) (l:List Int):S4:=zu8 s (ior .u64 (zlV 0 0 l) (zsX .u64 (IntKind.wrap .u64 (Int.tmod n 256)) 56))
def zIu (s:S4):S4:=zEi 4 ⟨s.a,s.b,zbI .u64 s.c 255,s.d⟩
def zF7 (s:S4):Int:=zbI .u64 (zbI .u64 (zbI .u64 s.a s.b) s.c) s.d
def zH7 (s:S4) (n:Int) (l:List Int):Int:=zF7 (zIu (zIL s n l))
def zIp (x y:Int):S4:=⟨zbI .u64 x 8317987319222330741,zbI .u64 y 7237128888997146477,zbI .u64 x 7816392313619706465,zbI .u64 y 8387220255154660723⟩
def ztU (x y:Int) (l:List Int):Int:=zH7 (zux (l.length / 8) (zIp x y) l) l.length (l.drop (l.length / 8 * 8))
theorem zAe (L:Nat) (hL:10 < L) (l:List Int) (hl:l.length≤1000000) (kx:List (List V)→Int→List V→Option β) (p6:Int):∀ (n i:Nat) (s:S4),i≤l.length / 8→l.length / 8 - i < n→ziD xz xB xv L kx n (zbm .u8 l) p6 ((l.length / 8:Nat):Int) (i:Int) s.row=kx (zbm .u8 l) p6 (zux (l.length / 8 - i) s (l.drop (8 * i))).row
 | 0,i,s,hi,hn=>by omega
 | n+1,i,s,hi,hn=>by
  simp only [ziD,zqY,yC,zo9,zq9,zgA]
  by_cases h:i < l.length / 8
  ·have e1:IntKind.wrap .i64 (8 * (i:Int))=((8 * i:Nat):Int):=by rw [zZ (by omega) (by omega)]; omega
   have e2:IntKind.wrap .i64 (((8 * i:Nat):Int)+8)=((8 * i+8:Nat):Int):=by rw [zZ (by omega) (by omega)]; omega
   have e3:IntKind.wrap .i64 ((i:Int)+1)=((i+1:Nat):Int):=by rw [zZ (by omega) (by omega)]; omega
   rw [y6 (by omega),e1,e2,e3,zf (by decide),zf (by omega),zf (by simp; omega)]
   simp only [Int.toNat_natCast,zzM,zzx]
   rw [zx4 _ _ (by simp; omega) (by simp; omega),zDH _ (by omega)]
   simp only [zo9,zu9]
   rw [zf (by decide),zAe L hL l hl kx p6 n (i+1) _ (by omega) (by omega),show l.length / 8 - i=(l.length / 8 - (i+1))+1 by omega,zux,List.drop_drop]
   rw [show 8 * i+8 - 8 * i=8 by omega,show 8 * (i+1)=8 * i+8 by omega]
  ·rw [zao (by omega),show l.length / 8 - i=0 by omega]
   rfl
theorem zAG (L:Nat) (x y:Int) (l:List Int) (hl:l.length≤1000000) (hL:l.length+10 < L) (k:Int→Option β):z7 β L (row .u64 [x,y]) (zbm .u8 l) k=k (ztU x y l):=by
 simp only [z7,zvV,zzV,yC,zgA]
 rw [xM (n:=x) (by rfl),xM (n:=y) (by rfl),xM (n:=x) (by rfl),xM (n:=y) (by rfl)]
 have e1:IntKind.wrap .i64 (Int.tdiv (l.length:Int) 8)=((l.length / 8:Nat):Int):=by
  rw [Int.tdiv_eq_ediv_of_nonneg (by omega),zZ (by omega) (by omega)]; omega
 rw [e1,show (0:Int)=((0:Nat):Int) from rfl]
 have:=zAe (β:=β) L (by omega) l hl (fun p1 p6 b5=>zjx xz xB xv L p1 p6 b5 k) ((l.length / 8:Nat):Int) L 0 (zIp x y) (by omega) (by omega)
 refine (show _=_ from this).trans ?_
 have e2:IntKind.wrap .i64 (8 * ((l.length / 8:Nat):Int))=((l.length / 8 * 8:Nat):Int):=by rw [zZ (by omega) (by omega)]; omega
 simp only [zjx,yC,zo9,zq9,zgA,Nat.sub_zero,Nat.mul_zero,List.drop_zero]
 rw [zf (by decide),e2,zf (by omega)]
 simp only [Int.toNat_natCast,zzM,zzx]
 rw [List.take_of_length_le (by simp),zx4 _ _ (by simp; omega) (by simp; omega),zDH _ (by omega)]
 simp only [zo9,zu9,c2,zHX,zq9,zsP,zoG,true_and,and_true,and_self,Nat.reduceAdd,Nat.reduceMul,Nat.reduceLeDiff,Nat.le_refl,Nat.zero_add]
 rw [show (4:Int)=((4:Nat):Int) from rfl,zDo _ _ 4 (by omega) (by omega)]
 simp only [zo9,zu9,c0,c1,c2,c3,ztU,zH7,zIL,zIu,zF7,zsP,zoG,true_and,and_true,and_self,Nat.reduceAdd,Nat.reduceMul,Nat.reduceLeDiff,Nat.le_refl,Nat.zero_add]
theorem zIE (n:Nat):∀ (s:S4) (l:List Int),zux (n+1) s l=zux n (zu8 s (zlV 0 0 (l.take 8))) (l.drop 8):=fun _ _=>rfl
theorem zAf (L:Nat) (hL:10 < L) (kx:List (List V)→Int→List V→Option β) (p6:Int):∀ (n:Nat) (l:List Int) (s:S4),l.length≤1000000→l.length / 8 < n→zht zu yx xq L kx n (zbm .u8 l) p6 s.row=kx (zbm .u8 (l.drop (l.length / 8 * 8))) p6 (zux (l.length / 8) s l).row
 | 0,l,s,hl,hn=>by omega
 | n+1,l,s,hl,hn=>by
  simp only [zht,zo7,yC,zo9,zq9,zgA]
  by_cases h:8≤l.length
  ·rw [y6 (by omega),zf (by decide),zf (by omega)]
   simp only [zzM,zzx,List.drop_zero]
   rw [zx0 _ _ (by simp; omega) (by simp; omega),zDA,zf (by omega)]
   simp only [zo9,zu9]
   rw [zf (by decide),List.take_of_length_le (by simp),zAf L hL kx p6 n _ _ (by simp; omega) (by simp; omega)]
   have e:(l.drop 8).length / 8=l.length / 8 - 1:=by simp; omega
   rw [e,List.drop_drop,show 8+(l.length / 8 - 1) * 8=l.length / 8 * 8 by omega]
   obtain ⟨q,hq⟩:∃ q,l.length / 8=q+1:=⟨l.length / 8 - 1,by omega⟩
   rw [hq,zIE]
   rfl
  ·have e:l.length / 8=0:=by omega
   rw [zao (by omega),e]
   rfl
theorem zAH (L:Nat) (x y:Int) (l:List Int) (hl:l.length≤1000000) (hL:l.length+10 < L) (k:Int→Option β):zR β L (row .u64 [x,y]) (zbm .u8 l) k=k (ztU x y l):=by
 simp only [zR,zsl,zwA,yC,zgA]
 rw [xM (n:=x) (by rfl),xM (n:=y) (by rfl),xM (n:=x) (by rfl),xM (n:=y) (by rfl)]
 have:=zAf (β:=β) L (by omega) (fun p1 p6 b5=>zix zu yx xq L p1 p6 b5 k) (l.length:Int) L l (zIp x y) hl (by omega)
 refine (show _=_ from this).trans ?_
 simp only [zix,yC,zo9,zq9]
 rw [zf (by decide),zx0 _ _ (by simp; omega) (by simp; omega)]
 simp only [zDA,zo9,zu9,c2,zHX,zq9,zFy,c0,c1,c3,ztU,zH7,zIL,zIu,zF7,zEi,zsP,zoG,true_and,and_true,and_self,Nat.reduceAdd,Nat.reduceMul,Nat.reduceLeDiff,Nat.le_refl,Nat.zero_add]
end
section
set_option linter.unusedVariables false
set_option linter.unusedSimpArgs false
variable {β:Type}
structure Adr where
 h:Int
 p:Int
 t:Int
def Adr.v (a:Adr):List V:=[.sc (.int .u32 a.h),.sc (.int .u16 a.p),.sc (.int .u32 a.t)]
structure Lnk where
 k:Int
 a:Adr
def Lnk.v (l:Lnk):List V:=[.sc (.int .i64 l.k),.sc (.int .u32 l.a.h),.sc (.int .u16 l.a.p),.sc (.int .u32 l.a.t)]
def grp (a:Adr):Int:=zr5 .u32 a.h 16
def za2 (l:List Lnk):List (List V):=l.map Lnk.v
theorem zdc (l:List Lnk):(za2 l).length=l.length:=by simp [za2]
theorem zkB {l:List Lnk} {i:Nat} (h:i < l.length):(za2 l)[i]?=some l[i].v:=by simp [za2,h]
theorem zzv (l:List Lnk) (i:Nat):(za2 l).take i=za2 (l.take i):=by simp [za2,List.map_take]
theorem zxJ (L:Nat) (a:Adr) (k:Int→Option β):zb β L a.v k=k (grp a):=by
 simp only [zb,zoV,Adr.v,yC]
 rw [xM (by rfl)]; rfl
theorem zuZ (L:Nat) (a:Adr) (k:Int→Option β):yi β L a.v k=k (grp a):=by
 simp only [yi,ztb,Adr.v,yC]
 rw [xM (by rfl)]; rfl
def tkn (l:List Lnk) (a:Adr):Bool:=l.any (fun e=>grp e.a == grp a)
theorem zJ8 (L:Nat) (l:Lnk) (a:Adr) (k:Bool→List V→Option β):zo β L l.v a.v k=k (grp l.a == grp a) a.v:=by
 simp only [zo,zmj]
 have e1:List.take 3 (List.drop 1 l.v)=l.a.v:=rfl
 have e2:List.take 3 a.v=a.v:=rfl
 rw [zf (by show 1+3≤4; omega),e1,zxJ,zf (by show 0+3≤3; omega),e2,zxJ]
theorem zBL (L:Nat) (ls:List Lnk) (hl:ls.length≤1000000) (a:Adr) (kr:Int→List V→Option β) (kx:List V→Option β) (k:Bool→Option β) (hr:∀ j:Nat,kr (j:Int) a.v=k true) (hx:kx a.v=k false) :
  ∀ (m i:Nat),i≤ls.length→ls.length - i < m→zaA zo L kr kx m (za2 ls) ((ls.length:Nat):Int) (i:Int) a.v=k (tkn (ls.drop i) a)
 | 0,i,h1,h2=>by omega
 | m+1,i,h1,h2=>by
  simp only [zaA,zcE,yC]
  by_cases h:i < ls.length
  ·have e1:List.take 4 ls[i].v=ls[i].v:=rfl
   rw [y6 (by omega),y4 (zkB h),e1,zJ8,zf rfl,xQ (by omega),zBL L ls hl a kr kx k hr hx m (i+1) (by omega) (by omega),List.drop_eq_getElem_cons h,hr]
   have e:tkn (ls[i]::ls.drop (i+1)) a=(grp ls[i].a == grp a || tkn (ls.drop (i+1)) a):=rfl
   rw [e]
   cases (grp ls[i].a == grp a) <;> rfl
  ·rw [zao (by omega),hx,List.drop_of_length_le (by omega)]; rfl
theorem zzA (L:Nat) (ls:List Lnk) (hl:ls.length≤1000000) (hL:ls.length < L) (a:Adr) (k:Bool→Option β):zd β L (za2 ls) a.v k=k (tkn ls a):=by
 simp only [zd,zpb,yw,zcN,xx,zbL,zdk,zdc]
 rw [show ((0:Int))=((0:Nat):Int) from rfl,zBL L ls hl a _ _ k (fun j=>?_) ?_ L 0 (by omega) (by omega),List.drop_zero]
 ·simp only [zb7]
  rw [zoG,zoG]
  rfl
 ·simp only [zb1]
  rw [zoG,zoG,decide_eq_true (by omega)]
theorem zJ2 (L:Nat) (n:Int) (k:Bool→Option β):xn β L n k=k (decide (1≤n∧n≤3)):=by
 simp only [xn,zqy,zd7]
 by_cases h1:n=1
 ·subst h1; rfl
 ·rw [if_neg h1]
  by_cases h2:n=2
  ·subst h2; rfl
  ·rw [if_neg h2]
   congr 1
   rw [Bool.eq_iff_iff]
   simp
   omega
def snd (l:List Lnk) (i:Nat):Bool:=match l[i]? with
 | some e=>decide (1≤e.k∧e.k≤3) && !(tkn (l.take i) e.a)
 | none=>true
def zCv (l:List Lnk) (i:Nat):Nat→Bool
 | 0=>true
 | n+1=>snd l i && zCv l (i+1) n
def zqV (l:List Lnk):Bool:=decide (l.length≤8) && zCv l 0 l.length
theorem zBN (L:Nat) (ls:List Lnk) (hl:ls.length≤8) (hL:100≤L) (kr:Bool→Option β) (kx:Option β) (k:Bool→Option β) (hr:kr false=k false) (hx:kx=k true) :
  ∀ (m i:Nat),i≤ls.length→ls.length - i < m→zeW xn zd L kr kx m (za2 ls) (za2 ls) ((ls.length:Nat):Int) (i:Int)=k (zCv ls i (ls.length - i))
 | 0,i,h1,h2=>by omega
 | m+1,i,h1,h2=>by
  simp only [zeW,zkO,yC]
  by_cases h:i < ls.length
  ·have e1:List.take 4 ls[i].v=ls[i].v:=rfl
   have e2:yk [(V.sc (.int .i64 (0:Int))),(V.sc (.int .u32 (0:Int))),(V.sc (.int .u16 (0:Int))),(V.sc (.int .u32 (0:Int)))] 0 ls[i].v=ls[i].v:=zeE rfl
   have e3:List.take 3 (List.drop 1 ls[i].v)=ls[i].a.v:=rfl
   have e4:ls.length - i=(ls.length - (i+1))+1:=by omega
   rw [y6 (by omega),y4 (zkB h),e1,zf ⟨rfl,by omega⟩,e2,xM (n:=ls[i].k) rfl,zJ2,zCl,e4,zCv,snd,List.getElem?_eq_getElem h]
   simp only
   by_cases hk:1≤ls[i].k∧ls[i].k≤3
   ·rw [if_pos hk,zdc,zf ⟨by omega,by omega⟩,zf (by show 1+3≤4; omega),e3,Nat.sub_zero,Int.toNat_natCast,List.drop_zero,zzv,zzA L (ls.take i) (by simp; omega) (by simp; omega),decide_eq_true hk]
    cases hb:tkn (ls.take i) ls[i].a with
    | true=>exact hr
    | false =>
     rw [zaK,xQ (by omega),zBN L ls hl hL kr kx k hr hx m (i+1) (by omega) (by omega)]
     rfl
   ·rw [if_neg hk,hr,decide_eq_false hk]; rfl
  ·rw [zao (by omega),hx,show ls.length - i=0 by omega]; rfl
theorem zI6 (L:Nat) (ls:List Lnk) (hL:100≤L) (k:Bool→Option β):xd β L (za2 ls) k=k (zqV ls):=by
 simp only [xd,zlF,zqo,zdc,zap]
 by_cases h:ls.length≤8
 ·rw [if_neg (by omega),show ((0:Int))=((0:Nat):Int) from rfl]
  refine (zBN L ls h hL _ _ k ?_ ?_ L 0 (by omega) (by omega)).trans ?_
  ·rfl
  ·rfl
  ·rw [zqV,decide_eq_true h]; rfl
 ·rw [if_pos (by omega),zqV,decide_eq_false h]
  rfl
end
section
set_option linter.unusedVariables false
set_option linter.unusedSimpArgs false
variable {β:Type}
theorem zCY (L:Nat) (ls:List Lnk) (hl:ls.length≤1000000) (a:Adr) (kr:Bool→Option β) (kx:Option β) (k:Bool→Option β) (hr:kr true=k true) (hx:kx=k false) :
  ∀ (m i:Nat),i≤ls.length→ls.length - i < m→zgL yi L kr kx m (za2 ls) (i:Int) a.v=k (tkn (ls.drop i) a)
 | 0,i,h1,h2=>by omega
 | m+1,i,h1,h2=>by
  simp only [zgL,znJ,yC,zdc]
  by_cases h:i < ls.length
  ·have e1:List.take 3 (List.drop 1 ls[i].v)=ls[i].a.v:=rfl
   have e2:List.take 3 a.v=a.v:=rfl
   have e:tkn (ls[i]::ls.drop (i+1)) a=(grp ls[i].a == grp a || tkn (ls.drop (i+1)) a):=rfl
   rw [y6 (by omega),y4 (zkB h),e1,zuZ,zf (by show 0+3≤3; omega),e2,zuZ,xQ (by omega),zCY L ls hl a kr kx k hr hx m (i+1) (by omega) (by omega),List.drop_eq_getElem_cons h,hr,e]
   cases (grp ls[i].a == grp a) <;> rfl
  ·rw [zao (by omega),hx,List.drop_of_length_le (by omega)]; rfl
theorem zyc (L:Nat) (ls:List Lnk) (hl:ls.length≤1000000) (hL:ls.length < L) (a:Adr) (k:Bool→Option β):ze β L (za2 ls) a.v k=k (tkn ls a):=by
 simp only [ze,zoO,ztf]
 rw [show ((0:Int))=((0:Nat):Int) from rfl]
 refine (zCY L ls hl a _ _ k ?_ ?_ L 0 (by omega) (by omega)).trans ?_
 ·rfl
 ·rfl
 ·rw [List.drop_zero]
theorem zBI (L:Nat) (ls:List Lnk) (hl:ls.length≤1000000) (hL:ls.length < L) (kr:Bool→Option β) (kx:List (List V)→Option β) (k:Bool→Option β) (hr:kr false=k false) :
  ∀ (m i:Nat),i≤ls.length→ls.length - i < m→zgS ze L kr kx m (za2 ls) (i:Int)=ifb (zCv ls i (ls.length - i)) (kx (za2 ls)) (k false)
 | 0,i,h1,h2=>by omega
 | m+1,i,h1,h2=>by
  simp only [zgS,zn5,yC,zdc]
  by_cases h:i < ls.length
  ·have e3:List.take 3 (List.drop 1 ls[i].v)=ls[i].a.v:=rfl
   have e4:ls.length - i=(ls.length - (i+1))+1:=by omega
   rw [y6 (by omega),y4 (zkB h),xM (n:=ls[i].k) rfl,zap,y4 (zkB h),xM (n:=ls[i].k) rfl,zap,e4,zCv,snd,List.getElem?_eq_getElem h]
   simp only
   by_cases hk:1≤ls[i].k∧ls[i].k≤3
   ·rw [if_neg (by omega),if_neg (by omega),zf ⟨by omega,by omega⟩,y4 (zkB h),e3,Nat.sub_zero,Int.toNat_natCast,List.drop_zero,zzv,zyc L (ls.take i) (by simp; omega) (by simp; omega),decide_eq_true hk]
    cases hb:tkn (ls.take i) ls[i].a with
    | true=>exact hr
    | false =>
     rw [zaK,xQ (by omega),zBI L ls hl hL kr kx k hr m (i+1) (by omega) (by omega)]
     rfl
   ·rw [decide_eq_false hk]
    by_cases h1:ls[i].k < 1
    ·rw [if_pos h1,hr]; rfl
    ·rw [if_neg h1,if_pos (by omega),hr]; rfl
  ·rw [zao (by omega),show ls.length - i=0 by omega]; rfl
theorem zJr (L:Nat) (ls:List Lnk) (hl:ls.length≤1000000) (hL:ls.length < L) (k:Bool→Option β):xu β L (za2 ls) k=k (zqV ls):=by
 simp only [xu,zoP,zs8]
 rw [show ((0:Int))=((0:Nat):Int) from rfl]
 refine (zBI L ls hl hL _ _ k ?_ L 0 (by omega) (by omega)).trans ?_
 ·rfl
 ·simp only [zk7,zdc,Nat.sub_zero,zqV]
  cases zCv ls 0 ls.length with
  | true =>
   rw [zdp,Bool.and_true]
   congr 1
   exact decide_eq_decide.2 (by omega)
  | false=>rw [Bool.and_false]; rfl
def cnt (kd:Int):List Lnk→Nat
 | []=>0
 | l::ls=>(if l.k=kd then 1 else 0)+cnt kd ls
theorem zDN (kd:Int):∀ ls:List Lnk,cnt kd ls≤ls.length
 | []=>Nat.le_refl _
 | l::ls=>by have:=zDN kd ls; simp only [cnt,List.length_cons]; split <;> omega
theorem zyB (L:Nat) (ls:List Lnk) (hl:ls.length≤1000000) (kx:Int→Option β):∀ (m i c:Nat),c≤i→i≤ls.length→ls.length - i < m→zeY zr L kx m (c:Int) (za2 ls) ((ls.length:Nat):Int) (i:Int)=kx ((c+cnt 1 (ls.drop i):Nat):Int)
 | 0,i,c,h0,h1,h2=>by omega
 | m+1,i,c,h0,h1,h2=>by
  simp only [zeY,zkG,yC]
  by_cases h:i < ls.length
  ·have e1:List.take 4 ls[i].v=ls[i].v:=rfl
   have e2:yk [(V.sc (.int .i64 (0:Int))),(V.sc (.int .u32 (0:Int))),(V.sc (.int .u16 (0:Int))),(V.sc (.int .u32 (0:Int)))] 0 ls[i].v=ls[i].v:=zeE rfl
   have e:cnt 1 (ls[i]::ls.drop (i+1))=(if ls[i].k=1 then 1 else 0)+cnt 1 (ls.drop (i+1)):=rfl
   rw [y6 (by omega),y4 (zkB h),e1,zf ⟨rfl,by omega⟩,e2,zf (by show 0+4≤4; omega),e1,zr,zl8,xM (n:=ls[i].k) rfl,zd7,List.drop_eq_getElem_cons h,e]
   by_cases hk:ls[i].k=1
   ·rw [if_pos hk,if_pos hk,xQ (by omega),xQ (by omega),zyB L ls hl kx m (i+1) (c+1) (by omega) (by omega) (by omega),Nat.add_assoc]
   ·rw [if_neg hk,if_neg hk,xQ (by omega),zyB L ls hl kx m (i+1) c (by omega) (by omega) (by omega),Nat.zero_add]
  ·rw [zao (by omega),List.drop_of_length_le (by omega)]; rfl
theorem zKo (L:Nat) (ls:List Lnk) (hl:ls.length≤1000000) (hL:ls.length < L) (k:Int→Option β):zs β L (za2 ls) k=k ((cnt 1 ls:Nat):Int):=by
 simp only [zs,zly,zp4,zdc]
 rw [show ((0:Int))=((0:Nat):Int) from rfl,zyB L ls hl _ L 0 0 (by omega) (by omega) (by omega),List.drop_zero,Nat.zero_add]
 rfl
theorem zuL (L:Nat) (ls:List Lnk) (hl:ls.length≤1000000) (kx:Int→Option β):∀ (m i c:Nat),c≤i→i≤ls.length→ls.length - i < m→zeb yr L kx m (c:Int) (za2 ls) ((ls.length:Nat):Int) (i:Int)=kx ((c+cnt 3 (ls.drop i):Nat):Int)
 | 0,i,c,h0,h1,h2=>by omega
 | m+1,i,c,h0,h1,h2=>by
  simp only [zeb,zi0,yC]
  by_cases h:i < ls.length
  ·have e1:List.take 4 ls[i].v=ls[i].v:=rfl
   have e2:yk [(V.sc (.int .i64 (0:Int))),(V.sc (.int .u32 (0:Int))),(V.sc (.int .u16 (0:Int))),(V.sc (.int .u32 (0:Int)))] 0 ls[i].v=ls[i].v:=zeE rfl
   have e:cnt 3 (ls[i]::ls.drop (i+1))=(if ls[i].k=3 then 1 else 0)+cnt 3 (ls.drop (i+1)):=rfl
   rw [y6 (by omega),y4 (zkB h),e1,zf ⟨rfl,by omega⟩,e2,zf (by show 0+4≤4; omega),e1,yr,zmx,xM (n:=ls[i].k) rfl,zd7,List.drop_eq_getElem_cons h,e]
   by_cases hk:ls[i].k=3
   ·rw [if_pos hk,if_pos hk,xQ (by omega),xQ (by omega),zuL L ls hl kx m (i+1) (c+1) (by omega) (by omega) (by omega),Nat.add_assoc]
   ·rw [if_neg hk,if_neg hk,xQ (by omega),zuL L ls hl kx m (i+1) c (by omega) (by omega) (by omega),Nat.zero_add]
  ·rw [zao (by omega),List.drop_of_length_le (by omega)]; rfl
theorem zHS (L:Nat) (ls:List Lnk) (hl:ls.length≤1000000) (hL:ls.length < L) (k:Int→Option β):yo β L (za2 ls) k=k ((cnt 3 ls:Nat):Int):=by
 simp only [yo,zjv,znH,zdc]
 rw [show ((0:Int))=((0:Nat):Int) from rfl,zuL L ls hl _ L 0 0 (by omega) (by omega) (by omega),List.drop_zero,Nat.zero_add]
 rfl
theorem zv8 (L:Nat) (ls:List Lnk) (kd:Int) (hl:ls.length≤1000000) (kx:Int→Option β):∀ (m i c:Nat),c≤i→i≤ls.length→ls.length - i < m→zf0 L kx m (za2 ls) kd (c:Int) (i:Int)=kx ((c+cnt kd (ls.drop i):Nat):Int)
 | 0,i,c,h0,h1,h2=>by omega
 | m+1,i,c,h0,h1,h2=>by
  simp only [zf0,zmc,yC,zdc]
  by_cases h:i < ls.length
  ·have e:cnt kd (ls[i]::ls.drop (i+1))=(if ls[i].k=kd then 1 else 0)+cnt kd (ls.drop (i+1)):=rfl
   rw [y6 (by omega),y4 (zkB h),xM (n:=ls[i].k) rfl,zd7,List.drop_eq_getElem_cons h,e]
   by_cases hk:ls[i].k=kd
   ·rw [if_pos hk,if_pos hk,xQ (by omega),xQ (by omega),zv8 L ls kd hl kx m (i+1) (c+1) (by omega) (by omega) (by omega),Nat.add_assoc]
   ·rw [if_neg hk,if_neg hk,xQ (by omega),zv8 L ls kd hl kx m (i+1) c (by omega) (by omega) (by omega),Nat.zero_add]
  ·rw [zao (by omega),List.drop_of_length_le (by omega)]; rfl
theorem zzW (L:Nat) (ls:List Lnk) (kd:Int) (hl:ls.length≤1000000) (hL:ls.length < L) (k:Int→Option β):xt β L (za2 ls) kd k=k ((cnt kd ls:Nat):Int):=by
 simp only [xt,zoI,zs1]
 rw [show ((0:Int))=((0:Nat):Int) from rfl,zv8 L ls kd hl _ L 0 0 (by omega) (by omega) (by omega),List.drop_zero,Nat.zero_add]
 rfl
end
section
set_option linter.unusedVariables false
set_option linter.unusedSimpArgs false
variable {β:Type}
structure Plc where
 b:Int
 a:Adr
 s:Int
def Plc.v (e:Plc):List V:=[.sc (.int .i64 e.b),.sc (.int .u32 e.a.h),.sc (.int .u16 e.a.p),.sc (.int .u32 e.a.t),.sc (.int .u32 e.s)]
def xT (l:List Plc):List (List V):=l.map Plc.v
theorem y9 (l:List Plc):(xT l).length=l.length:=by simp [xT]
theorem zcs {l:List Plc} {i:Nat} (h:i < l.length):(xT l)[i]?=some l[i].v:=by simp [xT,h]
theorem zxH (l m:List Plc):xT l++xT m=xT (l++m):=by simp [xT]
def zcH (l:List Adr):List (List V):=l.map Adr.v
theorem zkf (l:List Adr):(zcH l).length=l.length:=by simp [zcH]
theorem zrY {l:List Adr} {i:Nat} (h:i < l.length):(zcH l)[i]?=some l[i].v:=by simp [zcH,h]
def zk6 (ls:List Lnk) (ps:List Plc):List Adr:=(ps.filter (fun e=>!tkn ls e.a)).map Plc.a
theorem zB7 (ls:List Lnk) (ps:List Plc):(zk6 ls ps).length≤ps.length:=by
 rw [zk6,List.length_map]; exact List.length_filter_le _ _
theorem zJ3 (ls:List Lnk) (ps qs:List Plc):zk6 ls (ps++qs)=zk6 ls ps++zk6 ls qs:=by simp [zk6]
theorem zB3 {ls:List Lnk} {e:Plc} (ps:List Plc) (h:tkn ls e.a=false):zk6 ls (e::ps)=e.a::zk6 ls ps:=by simp [zk6,h]
theorem zEG {ls:List Lnk} {e:Plc} (ps:List Plc) (h:tkn ls e.a=true):zk6 ls (e::ps)=zk6 ls ps:=by simp [zk6,h]
theorem zAR (a:Adr):zp 3 1 (yk [(V.sc (.int .u32 (0:Int))),(V.sc (.int .u16 (0:Int))),(V.sc (.int .u32 (0:Int)))] 0 a.v)=[a.v]:=by
 rw [zeE (by rfl)]; rfl
theorem zvF (l:List Adr) (a:Adr):zcH l++[a.v]=zcH (l++[a]):=by simp [zcH]
theorem zx9 (L:Nat) (ls:List Lnk) (hl:ls.length≤1000000) (hL:ls.length < L) (ps:List Plc) (hp:ps.length≤1000000) (kx:List (List V)→List (List V)→Option β) :
  ∀ (m i:Nat) (out:List Adr),out.length≤1000000+i→i≤ps.length→ps.length - i < m→zds zd L kx m (xT ps) ((ps.length:Nat):Int) (i:Int) (za2 ls) (zcH out)=kx (za2 ls) (zcH (out++zk6 ls (ps.drop i)))
 | 0,i,out,h0,h1,h2=>by omega
 | m+1,i,out,h0,h1,h2=>by
  simp only [zds,zhy,yC]
  by_cases h:i < ps.length
  ·have e1:List.take 5 ps[i].v=ps[i].v:=rfl
   have e2:yk [(V.sc (.int .i64 (0:Int))),(V.sc (.int .u32 (0:Int))),(V.sc (.int .u16 (0:Int))),(V.sc (.int .u32 (0:Int))),(V.sc (.int .u32 (0:Int)))] 0 ps[i].v=ps[i].v:=zeE rfl
   have e3:List.take 3 (List.drop 1 ps[i].v)=ps[i].a.v:=rfl
   rw [y6 (by omega),y4 (zcs h),e1,zf ⟨rfl,by omega⟩,e2,zf (by show 1+3≤5; omega),e3,zzA L ls hl hL,List.drop_eq_getElem_cons h]
   cases hb:tkn ls ps[i].a with
   | true=>rw [Bool.not_true,zaK,xQ (by omega),zx9 L ls hl hL ps hp kx m (i+1) out (by omega) (by omega) (by omega),zEG _ hb]
   | false =>
    rw [Bool.not_false,zdp,zf (by show 1+3≤5; omega),zf ⟨rfl,by omega⟩,zAR,zkf,List.length_singleton,zf ⟨by simp only [yu]; omega,by simp only [yu]; omega⟩,zvF,xQ (by omega),zx9 L ls hl hL ps hp kx m (i+1) _ (by simp; omega) (by omega) (by omega),zB3 _ hb,List.append_assoc]
    rfl
  ·rw [zao (by omega),List.drop_of_length_le (by omega)]
   show _=kx (za2 ls) (zcH (out++[]))
   rw [List.append_nil]
theorem zEd (L:Nat) (ls:List Lnk) (hl:ls.length≤1000000) (hL:ls.length < L) (ps:List Plc) (hp:ps.length≤1000000) (hpL:ps.length < L) (out:List Adr) (ho:out.length≤1000000) (k:List (List V)→List (List V)→Option β) :
  zJ β L (xT ps) (za2 ls) (zcH out) k=k (za2 ls) (zcH (out++zk6 ls ps)):=by
 simp only [zJ,zfO,zi2,y9]
 rw [show ((0:Int))=((0:Nat):Int) from rfl,zx9 L ls hl hL ps hp _ L 0 out (by omega) (by omega) (by omega),List.drop_zero]
 rfl
def zoN (H T:List Plc) (ls:List Lnk) (kd:Int):List Adr:=if kd=2 then zk6 ls (T++H) else if kd=3 then zk6 ls H else []
theorem zGm (L:Nat) (ls:List Lnk) (hl:ls.length≤1000000) (hL:ls.length < L) (p0:List V) (H T:List Plc) (hH:H.length≤1000000) (hT:T.length≤1000000) (hHL:H.length < L) (hTL:T.length < L) (g1:p0[32]?=some (.sl 5 (xT H))) (g2:p0[33]?=some (.sl 5 (xT T))) (kd:Int) (k:List (List V)→Option β) :
  ya β L p0 (za2 ls) kd k=k (zcH (zoN H T ls kd)):=by
 simp only [ya,zkg,zd7]
 have e0:([]:List (List V))=zcH []:=rfl
 rw [e0,zoN]
 by_cases h2:kd=2
 ·rw [if_pos h2,if_pos h2,zdb g2,zEd L ls hl hL T hT hTL [] (by simp),zdb g1,zEd L ls hl hL H hH hHL _ (by have:=zB7 ls T; simp; omega),zJ3,List.nil_append]
 ·rw [if_neg h2,if_neg h2]
  by_cases h3:kd=3
  ·rw [if_pos h3,if_pos h3,zdb g1,zEd L ls hl hL H hH hHL [] (by simp),List.nil_append]
  ·rw [if_neg h3,if_neg h3]
theorem ztL (L:Nat) (ls:List Lnk) (hl:ls.length≤1000000) (hL:ls.length < L) (ps:List Plc) (hp:ps.length≤2000000) (kx:List (List V)→Option β) :
  ∀ (m i:Nat) (out:List Adr),out.length≤i→i≤ps.length→ps.length - i < m→zdd ze L kx m (za2 ls) (xT ps) (zcH out) (i:Int)=kx (zcH (out++zk6 ls (ps.drop i)))
 | 0,i,out,h0,h1,h2=>by omega
 | m+1,i,out,h0,h1,h2=>by
  simp only [zdd,zg9,yC,y9]
  by_cases h:i < ps.length
  ·have e3:List.take 3 (List.drop 1 ps[i].v)=ps[i].a.v:=rfl
   rw [y6 (by omega),y4 (zcs h),e3,zyc L ls hl hL,List.drop_eq_getElem_cons h]
   cases hb:tkn ls ps[i].a with
   | true=>rw [Bool.not_true,zaK,xQ (by omega),ztL L ls hl hL ps hp kx m (i+1) out (by omega) (by omega) (by omega),zEG _ hb]
   | false =>
    rw [Bool.not_false,zdp,y4 (zcs h),e3,zf ⟨rfl,by omega⟩,zAR,zkf,List.length_singleton,zf ⟨by simp only [yu]; omega,by simp only [yu]; omega⟩,zvF,xQ (by omega),ztL L ls hl hL ps hp kx m (i+1) _ (by simp; omega) (by omega) (by omega),zB3 _ hb,List.append_assoc]
    rfl
  ·rw [zao (by omega),List.drop_of_length_le (by omega)]
   show _=kx (zcH (out++[]))
   rw [List.append_nil]
theorem zun (L:Nat) (ls:List Lnk) (hl:ls.length≤1000000) (hL:ls.length < L) (ps:List Plc) (hp:ps.length≤2000000) (kx:List (List V)→Option β) :
  ∀ (m i:Nat) (out:List Adr),out.length≤i→i≤ps.length→ps.length - i < m→zcK ze L kx m (za2 ls) (xT ps) (zcH out) (i:Int)=kx (zcH (out++zk6 ls (ps.drop i)))
 | 0,i,out,h0,h1,h2=>by omega
 | m+1,i,out,h0,h1,h2=>by
  simp only [zcK,zf3,yC,y9]
  by_cases h:i < ps.length
  ·have e3:List.take 3 (List.drop 1 ps[i].v)=ps[i].a.v:=rfl
   rw [y6 (by omega),y4 (zcs h),e3,zyc L ls hl hL,List.drop_eq_getElem_cons h]
   cases hb:tkn ls ps[i].a with
   | true=>rw [Bool.not_true,zaK,xQ (by omega),zun L ls hl hL ps hp kx m (i+1) out (by omega) (by omega) (by omega),zEG _ hb]
   | false =>
    rw [Bool.not_false,zdp,y4 (zcs h),e3,zf ⟨rfl,by omega⟩,zAR,zkf,List.length_singleton,zf ⟨by simp only [yu]; omega,by simp only [yu]; omega⟩,zvF,xQ (by omega),zun L ls hl hL ps hp kx m (i+1) _ (by simp; omega) (by omega) (by omega),zB3 _ hb,List.append_assoc]
    rfl
  ·rw [zao (by omega),List.drop_of_length_le (by omega)]
   show _=kx (zcH (out++[]))
   rw [List.append_nil]
theorem zHf (L:Nat) (ls:List Lnk) (hl:ls.length≤1000000) (hL:ls.length < L) (p0:List V) (H T:List Plc) (hH:H.length≤1000000) (hT:T.length≤1000000) (hHL:T.length+H.length < L) (g1:p0[32]?=some (.sl 5 (xT H))) (g2:p0[33]?=some (.sl 5 (xT T))) (kd:Int) (k:List (List V)→Option β) :
  yc β L p0 (za2 ls) kd k=k (zcH (zoN H T ls kd)):=by
 simp only [yc,ziu,zmw,zd7,yC,List.nil_append,List.length_nil,Nat.zero_add]
 have e0:([]:List (List V))=zcH []:=rfl
 have e1:([]:List (List V))=xT []:=rfl
 rw [zoN,show ((0:Int))=((0:Nat):Int) from rfl]
 by_cases h2:kd=2
 ·rw [if_pos h2,if_pos h2,zdb g2,y9,zf ⟨by simp only [yu]; omega,by simp only [yu]; omega⟩,zdb g1,y9,zf ⟨by simp only [yu]; omega,by simp only [yu]; omega⟩,zxH,e0,ztL L ls hl hL (T++H) (by simp; omega) _ L 0 [] (by simp) (by omega) (by simp; omega),List.drop_zero,List.nil_append]
  rfl
 ·rw [if_neg h2,if_neg h2]
  by_cases h3:kd=3
  ·rw [if_pos h3,if_pos h3,zdb g1,e0,ztL L ls hl hL H (by omega) _ L 0 [] (by simp) (by omega) (by omega),List.drop_zero,List.nil_append]
   rfl
  ·rw [if_neg h3,if_neg h3]
   have:=zun (β:=β) L ls hl hL [] (by simp) (fun p8=>zfb ze L p8 k) L 0 [] (by simp) (by simp) (by simp; omega)
   exact this
end
section
set_option linter.unusedVariables false
set_option linter.unusedSimpArgs false
variable {β:Type}
structure Bk where
 salt:List Int
 H:List Plc
 T:List Plc
 hs:salt.length=32
def Bk.v (b:Bk):List V:=row .u8 b.salt++[.sl 5 (xT b.H),.sl 5 (xT b.T)]
theorem Bk.len (b:Bk):b.v.length=34:=by simp [Bk.v,zdl,b.hs]
theorem Bk.take (b:Bk):List.take 34 b.v=b.v:=List.take_of_length_le (by rw [b.len]; exact Nat.le_refl _)
theorem zK4 (k:IntKind) (l:List Int):(row k l).map V.dem=row k l:=by simp [row,V.dem]
theorem Bk.dem (b:Bk):List.map V.dem b.v=b.v:=by
 rw [Bk.v,List.map_append,zK4]; rfl
theorem Bk.g32 (b:Bk):b.v[32]?=some (.sl 5 (xT b.H)):=by
 rw [Bk.v,List.getElem?_append_right (by rw [zdl,b.hs]; omega),zdl,b.hs]; rfl
theorem Bk.g33 (b:Bk):b.v[33]?=some (.sl 5 (xT b.T)):=by
 rw [Bk.v,List.getElem?_append_right (by rw [zdl,b.hs]; omega),zdl,b.hs]; rfl
def Lnk0:Lnk:=⟨0,⟨0,0,0⟩⟩
def zF5 (c:List Adr) (draw:Int):Adr:=c.getD (Int.tmod draw (c.length:Int)).toNat ⟨0,0,0⟩
def zxC (b:Bk) (ls:List Lnk) (kd draw:Int):Lnk × Int :=
 if zoN b.H b.T ls kd=[] then (Lnk0,390) else (⟨kd,zF5 (zoN b.H b.T ls kd) draw⟩,0)
theorem zCw (c:List Adr) (hc:c.length≤4000000) (draw:Int) (hd:0≤draw) (A:Option β) (G:List V→Option β) :
  ifb ((((zcH c).length:Nat):Int) == 0) A (lt (IntKind.wrap .u64 (((zcH c).length:Nat):Int)) fun x=>chk (x≠0) (lt (Int.tmod draw x) fun y=>idx (zcH c) y fun e=>G e))=if c=[] then A else G (zF5 c draw).v:=by
 rw [zd7,zkf]
 by_cases h:c=[]
 ·subst h; rfl
 ·have hpos:0 < c.length:=List.length_pos_iff.2 h
  rw [if_neg (by omega),if_neg h]
  simp only [yC]
  rw [zGv (by omega) (by omega),zf (by omega)]
  have e:Int.tmod draw (c.length:Int)=((Int.tmod draw (c.length:Int)).toNat:Int):=by
   rw [Int.toNat_of_nonneg (Int.tmod_nonneg _ hd)]
  have hlt:(Int.tmod draw (c.length:Int)).toNat < c.length:=by
   have:=Int.tmod_lt_of_pos draw (b:=(c.length:Int)) (by omega)
   have:=Int.tmod_nonneg (c.length:Int) hd
   omega
  rw [e,y4 (zrY hlt),zF5,List.getD_eq_getElem?_getD,List.getElem?_eq_getElem hlt]
  rfl
theorem zHc (c:List Adr) (hc:c.length≤4000000) (draw:Int) (hd:0≤draw) (A:Option β) (G:List V→Option β) :
  ifb ((((zcH c).length:Nat):Int) == 0) A (lt (IntKind.wrap .u64 (((zcH c).length:Nat):Int)) fun x=>chk (x≠0) (lt (Int.tmod draw x) fun y=>lt (IntKind.wrap .i64 y) fun z=>idx (zcH c) z fun e=>G e))=if c=[] then A else G (zF5 c draw).v:=by
 rw [← zCw c hc draw hd A G]
 rw [zd7,zd7,zkf]
 by_cases h:c=[]
 ·subst h; rfl
 ·have hpos:0 < c.length:=List.length_pos_iff.2 h
  rw [if_neg (by omega),if_neg (by omega)]
  simp only [yC]
  rw [zGv (by omega) (by omega)]
  have h1:=Int.tmod_lt_of_pos draw (b:=(c.length:Int)) (by omega)
  have h2:=Int.tmod_nonneg (c.length:Int) hd
  rw [zZ (n:=Int.tmod draw (c.length:Int)) (by omega) (by omega)]
def ziM (ls:List Lnk):List Adr→Option Adr
 | []=>none
 | a::l=>if tkn ls a then ziM ls l else some a
def zpp (b:Bk) (ls:List Lnk) (draw:Int):Lnk × Int :=
 if (ls.length:Int) - (cnt 3 ls:Int) ≥ 7 then (if (cnt 3 ls:Int) > 0 then (Lnk0,380) else zxC b ls 3 draw) else zxC b ls 2 draw
def zxx (bs:Bool) (b:Bk) (an:List Adr) (ls:List Lnk) (draw:Int):Lnk × Int :=
 if zqV ls=false then (Lnk0,6) else if bs=false then (Lnk0,6) else if 8≤ls.length then (Lnk0,380) else
 if cnt 1 ls < 2 then (match ziM ls an with | some a=>(⟨1,a⟩,0) | none=>zpp b ls draw) else zpp b ls draw
def zAN (k:List V→Int→Option β) (r:Lnk × Int):Option β:=k r.1.v r.2
theorem zsu (b:Bk) (ls:List Lnk) (kd:Int) (hH:b.H.length≤1000000) (hT:b.T.length≤1000000):(zoN b.H b.T ls kd).length≤4000000:=by
 unfold zoN
 split
 ·have:=zB7 ls (b.T++b.H); rw [List.length_append] at this; omega
 ·split
  ·have:=zB7 ls b.H; omega
  ·simp
theorem zIB (kd:Int) (a:Adr) (k:List V→Int→Option β):(chk ((List.length (List.take 3 a.v))=3∧1+3≤4) (
 chk ((List.length (yk [(V.sc (.int .i64 kd)),(V.sc (.int .u32 (0:Int))),(V.sc (.int .u16 (0:Int))),(V.sc (.int .u32 (0:Int)))] 1 (List.take 3 a.v)))=4∧0+4≤4) (
 lt (yk [(V.sc (.int .i64 (0:Int))),(V.sc (.int .u32 (0:Int))),(V.sc (.int .u16 (0:Int))),(V.sc (.int .u32 (0:Int)))] 0 (yk [(V.sc (.int .i64 kd)),(V.sc (.int .u32 (0:Int))),(V.sc (.int .u16 (0:Int))),(V.sc (.int .u32 (0:Int)))] 1 (List.take 3 a.v))) fun r14 =>
 chk (0=0∧(List.length r14)=4∧4≠0) (
 k r14 (0:Int)))))=k (⟨kd,a⟩:Lnk).v 0:=by
 rw [zf ⟨rfl,by omega⟩,zf ⟨rfl,by omega⟩,yC,zf ⟨rfl,rfl,by omega⟩]
 rfl
theorem zs0 (e:Int) (k:List V→Int→Option β):(lt [(V.sc (.int .i64 (0:Int))),(V.sc (.int .u32 (0:Int))),(V.sc (.int .u16 (0:Int))),(V.sc (.int .u32 (0:Int)))] fun r1 =>
 chk (0=0∧(List.length r1)=4∧4≠0) (k r1 e))=k Lnk0.v e:=by
 rw [yC,zf ⟨rfl,rfl,by omega⟩]; rfl
theorem zKG (L:Nat) (b:Bk) (hH:b.H.length≤1000000) (hT:b.T.length≤1000000) (hL:2000000 < L) (ls:List Lnk) (hl:ls.length≤1000000) (draw:Int) (hd:0≤draw) (k:List V→Int→Option β) :
  zcW xd xp zs yo ya zd L (za2 ls) draw b.v 0 0 0 0 k=zAN k (zpp b ls draw):=by
 have hc:=zDN 3 ls
 unfold zcW
 rw [zHS L ls hl (by omega),yC,zdc,zZ (by omega) (by omega),zap,zpp]
 by_cases h7:(ls.length:Int) - (cnt 3 ls:Int) ≥ 7
 ·rw [if_pos h7,if_pos h7,zap]
  by_cases hf:(cnt 3 ls:Int) > 0
  ·rw [if_pos hf,if_pos hf,zs0]; rfl
  ·rw [if_neg hf,if_neg hf,zf (by rw [b.len]; omega),b.take,b.dem,zGm L ls hl (by omega) b.v b.H b.T hH hT (by omega) (by omega) b.g32 b.g33]
   refine (zCw _ (zsu b ls 3 hH hT) draw hd _ _).trans ?_
   rw [zxC]
   by_cases h:zoN b.H b.T ls 3=[]
   ·rw [if_pos h,if_pos h,zs0]; rfl
   ·rw [if_neg h,if_neg h,zIB]; rfl
 ·rw [if_neg h7,if_neg h7,zf (by rw [b.len]; omega),b.take,b.dem,zGm L ls hl (by omega) b.v b.H b.T hH hT (by omega) (by omega) b.g32 b.g33]
  refine (zCw _ (zsu b ls 2 hH hT) draw hd _ _).trans ?_
  rw [zxC]
  by_cases h:zoN b.H b.T ls 2=[]
  ·rw [if_pos h,if_pos h,zs0]; rfl
  ·rw [if_neg h,if_neg h,zIB]; rfl
theorem zGB (L:Nat) (b:Bk) (ls:List Lnk) (hl:ls.length≤1000000) (hL:ls.length < L) (an:List Adr) (ha:an.length≤1000000) (draw:Int) (kr:Int→List V→Option β) (kx:zmI β) :
  ∀ (m i:Nat),i≤an.length→an.length - i < m→zdt xd xp zs yo ya zd L kr kx m (za2 ls) draw (zcH an) ((an.length:Nat):Int) (i:Int) b.v 0 0 0 0 =
   match ziM ls (an.drop i) with | some a=>kr 0 (⟨1,a⟩:Lnk).v | none=>kx (za2 ls) draw b.v 0 0 0 0
 | 0,i,h1,h2=>by omega
 | m+1,i,h1,h2=>by
  simp only [zdt,zhs,yC]
  by_cases h:i < an.length
  ·have e1:List.take 3 an[i].v=an[i].v:=rfl
   have e2:yk [(V.sc (.int .u32 (0:Int))),(V.sc (.int .u16 (0:Int))),(V.sc (.int .u32 (0:Int)))] 0 an[i].v=an[i].v:=zeE rfl
   rw [y6 (by omega),y4 (zrY h),e1,zf ⟨rfl,by omega⟩,e2,zf (by show 0+3≤3; omega),e1,zzA L ls hl hL,List.drop_eq_getElem_cons h,ziM]
   cases hb:tkn ls an[i] with
   | true=>rw [Bool.not_true,zaK,xQ (by omega),zGB L b ls hl hL an ha draw kr kx m (i+1) (by omega) (by omega),if_pos rfl]
   | false =>
    rw [Bool.not_false,zdp,zf (by show 0+3≤3; omega),zf ⟨rfl,by omega⟩,zf ⟨rfl,by omega⟩,if_neg (by simp)]
    rfl
  ·rw [zao (by omega),List.drop_of_length_le (by omega)]
   rfl
theorem zLl (L:Nat) (b:Bk) (hH:b.H.length≤1000000) (hT:b.T.length≤1000000) (hL:2000000 < L) (bs:Bool) (hB:∀ k:Bool→Option β,xp β L b.v k=k bs) (an:List Adr) (ha:an.length≤1000000) (ls:List Lnk) (hl:ls.length≤1000000) (draw:Int) (hd:0≤draw) (k:List V→Int→Option β) :
  xa β L b.v (zcH an) (za2 ls) draw k=zAN k (zxx bs b an ls draw):=by
 unfold xa zke zpd
 rw [zI6 L ls (by omega),zxx]
 cases hs:zqV ls with
 | false=>rw [Bool.not_false,zdp,zs0,if_pos rfl]; rfl
 | true =>
  rw [Bool.not_true,zaK,zf (by rw [b.len]; omega),b.take,b.dem,hB,if_neg (show ¬ ((true:Bool)=false) by simp)]
  cases bs with
  | false=>rw [Bool.not_false,zdp,zs0,if_pos rfl]; rfl
  | true =>
   rw [Bool.not_true,zaK,zap,if_neg (show ¬ ((true:Bool)=false) by simp),zdc]
   by_cases h8:8≤ls.length
   ·rw [if_pos (by omega),if_pos h8,zs0]; rfl
   ·rw [if_neg (by omega),if_neg h8,zKo L ls hl (by omega),zap]
    by_cases h2:cnt 1 ls < 2
    ·rw [if_pos (by omega),if_pos h2,zkf,show ((0:Int))=((0:Nat):Int) from rfl]
     refine (zGB L b ls hl (by omega) an ha draw _ _ L 0 (by omega) (by omega)).trans ?_
     rw [List.drop_zero]
     cases ziM ls an with
     | some a=>unfold zfV; exact zf ⟨rfl,rfl,by omega⟩ _
     | none=>exact zKG L b hH hT hL ls hl draw hd k
    ·rw [if_neg (by omega),if_neg h2]
     have:=zKG (β:=β) L b hH hT hL ls hl draw hd k
     unfold zcW at this
     rw [zdc,b.take,b.dem] at this
     exact this
end
section
set_option linter.unusedVariables false
set_option linter.unusedSimpArgs false
set_option maxRecDepth 100000
variable {β:Type}
def le4 (x:Int):List Int:=[IntKind.wrap .u8 (zr5 .u64 x 0),IntKind.wrap .u8 (zr5 .u64 x 8),IntKind.wrap .u8 (zr5 .u64 x 16),IntKind.wrap .u8 (zr5 .u64 x 24)]
def le2 (x:Int):List Int:=[IntKind.wrap .u8 (zr5 .u64 x 0),IntKind.wrap .u8 (zr5 .u64 x 8)]
theorem zMG (L:Nat) (x:Int) (k:List (List V)→Option β):yL β (L+10) x 4 k=k (zbm .u8 (le4 x)):=by kernel_rfl
theorem zMO (L:Nat) (x:Int) (k:List (List V)→Option β):yL β (L+10) x 2 k=k (zbm .u8 (le2 x)):=by kernel_rfl
theorem zMU (L:Nat) (x:Int) (k:List (List V)→Option β):xK β (L+10) x 4 k=k (zbm .u8 (le4 x)):=by kernel_rfl
theorem zMJ (L:Nat) (x:Int) (k:List (List V)→Option β):xK β (L+10) x 2 k=k (zbm .u8 (le2 x)):=by kernel_rfl
theorem zI4 (L:Nat) (l m:List Int) (hl:l.length≤1000) (hm:m.length≤1000) (k:List (List V)→Option β):yK β L (zbm .u8 l) (zbm .u8 m) k=k (zbm .u8 (l++m)):=by
 simp only [yK,zrO,yC,zgA,List.replicate_zero,List.length_nil,Nat.zero_add,List.nil_append]
 rw [zZ (by omega) (by omega),zf ⟨by omega,by omega,by simp only [yu]; omega,by simp only [yu]; omega⟩,zf ⟨by simp only [yu]; omega,by simp only [yu]; omega⟩,zf ⟨by simp only [yu]; omega,by simp only [yu]; omega⟩,zGz]
theorem zHD (L:Nat) (l m:List Int) (hl:l.length≤1000) (hm:m.length≤1000) (k:List (List V)→Option β):zL β L (zbm .u8 l) (zbm .u8 m) k=k (zbm .u8 (l++m)):=by
 simp only [zL,zrQ,yC,zgA,List.replicate_zero,List.length_nil,Nat.zero_add,List.nil_append]
 rw [zZ (by omega) (by omega),zf ⟨by omega,by omega,by simp only [yu]; omega,by simp only [yu]; omega⟩,zf ⟨by simp only [yu]; omega,by simp only [yu]; omega⟩,zf ⟨by simp only [yu]; omega,by simp only [yu]; omega⟩,zGz]
def w64 (x:Int):Int:=IntKind.wrap .u64 x
theorem zCa (L:Nat) (l:List Int) (hl:l.length≤900) (x:Int) (k:List (List V)→Option β):yB β (L+10) (zbm .u8 l) x k=k (zbm .u8 (l++le4 (w64 x))):=by
 simp only [yB,znY,yC]
 rw [zMG,zI4 _ _ _ (by omega) (by simp [le4])]; rfl
theorem zMP (L:Nat) (l:List Int) (hl:l.length≤900) (x:Int) (k:List (List V)→Option β):yX β (L+10) (zbm .u8 l) x k=k (zbm .u8 (l++le2 (w64 x))):=by
 simp only [yX,zoc,yC]
 rw [zMO,zI4 _ _ _ (by omega) (by simp [le2])]; rfl
theorem zxQ (L:Nat) (l:List Int) (hl:l.length≤900) (x:Int) (k:List (List V)→Option β):zB β (L+10) (zbm .u8 l) x k=k (zbm .u8 (l++le4 (w64 x))):=by
 simp only [zB,znU,yC]
 rw [zMU,zHD _ _ _ (by omega) (by simp [le4])]; rfl
theorem zL7 (L:Nat) (l:List Int) (hl:l.length≤900) (x:Int) (k:List (List V)→Option β):xX β (L+10) (zbm .u8 l) x k=k (zbm .u8 (l++le2 (w64 x))):=by
 simp only [xX,zoe,yC]
 rw [zMJ,zHD _ _ _ (by omega) (by simp [le2])]; rfl
end
section
set_option linter.unusedVariables false
set_option linter.unusedSimpArgs false
set_option maxRecDepth 100000
variable {β:Type}
def zIO (s:List Int):Int:=zlV 0 0 (s.take 8)
def zIm (s:List Int):Int:=zlV 0 0 ((s.drop 8).take 8)
def bkt (s:List Int) (m1:List Int) (m2:Int→List Int):Int :=
 IntKind.wrap .i64 (Int.tmod (ztU (zIO s) (zIm s) (m2 (IntKind.wrap .u32 (Int.tmod (ztU (zIO s) (zIm s) m1) 4)))) 64)
def hbk (s:List Int) (a:Adr) (src:Int):Int:=bkt s ([2]++le4 (w64 (grp a))++le4 (w64 src)) (fun x=>[1]++le4 (w64 src)++le4 (w64 x))
def tbk (s:List Int) (a:Adr):Int:=bkt s ([4]++le4 (w64 a.h)++le2 (w64 a.p)) (fun x=>[3]++le4 (w64 (grp a))++le4 (w64 x))
theorem zF8 (n:Int):zp 1 1 [(V.sc (.int .u8 n))]=zbm .u8 [n]:=rfl
theorem zF6 (x y:Int):yk [(V.sc (.int .u64 (0:Int))),(V.sc (.int .u64 (0:Int)))] 0 (row .u64 [x,y])=row .u64 [x,y]:=rfl
theorem zDI (x y:Int):List.take 2 (row .u64 [x,y])=row .u64 [x,y]:=rfl
theorem zm7 (a:Adr):List.take 3 a.v=a.v:=rfl
theorem zuf {s:List Int} (h:s.length=32):List.take 32 (row .u8 s)=row .u8 s:=List.take_of_length_le (by rw [zdl,h]; exact Nat.le_refl _)
theorem zMp (L:Nat) (s:List Int) (hs:s.length=32) (a:Adr) (src:Int) (k:Int→Option β):yM β (L+100) (row .u8 s) a.v src k=k (hbk s a src):=by
 simp only [yM,ziU,zuf hs,zm7,yC,zF8]
 rw [zf (by rw [zdl,hs]; omega),(zCS (β:=β) (L+100) (by omega) s hs _).1,zf ⟨rfl,by omega⟩,zF6,zf (by show 0+2≤2; omega),zf (by show 0+3≤3; omega),zxJ,show L+100=(L+90)+10 from rfl,zCa _ _ (by simp),zCa _ _ (by simp [le4]),zDI,zAG _ _ _ _ (by simp [le4]) (by simp [le4]),zCa _ _ (by simp),zCa _ _ (by simp [le4]),zf (by show 0+2≤2; omega),zAG _ _ _ _ (by simp [le4]) (by simp [le4])]
 rfl
theorem zKP (L:Nat) (s:List Int) (hs:s.length=32) (a:Adr) (src:Int) (k:Int→Option β):yd β (L+100) (row .u8 s) a.v src k=k (hbk s a src):=by
 simp only [yd,zlc,zuf hs,zm7,yC,zF8]
 rw [zf (by rw [zdl,hs]; omega),(zCS (β:=β) (L+100) (by omega) s hs _).2,zf ⟨rfl,by omega⟩,zF6,zf (by show 0+2≤2; omega),zf (by show 0+3≤3; omega),zuZ,show L+100=(L+90)+10 from rfl,zxQ _ _ (by simp),zxQ _ _ (by simp [le4]),zDI,zAH _ _ _ _ (by simp [le4]) (by simp [le4]),zf (by show 0+2≤2; omega),zxQ _ _ (by simp),zxQ _ _ (by simp [le4]),zAH _ _ _ _ (by simp [le4]) (by simp [le4])]
 rfl
theorem zMn (L:Nat) (s:List Int) (hs:s.length=32) (a:Adr) (k:Int→Option β):zM β (L+100) (row .u8 s) a.v k=k (tbk s a):=by
 simp only [zM,zjc,zuf hs,zm7,yC,zF8]
 rw [zf (by rw [zdl,hs]; omega),(zCS (β:=β) (L+100) (by omega) s hs _).1,zf ⟨rfl,by omega⟩,zF6,zf (by show 0+2≤2; omega),xM (n:=a.h) rfl,show L+100=(L+90)+10 from rfl,zCa _ _ (by simp),xM (n:=a.p) rfl,zMP _ _ (by simp [le4]),zDI,zAG _ _ _ _ (by simp [le4,le2]) (by simp [le4,le2]),zf (by show 0+3≤3; omega),zxJ,zCa _ _ (by simp),zCa _ _ (by simp [le4]),zf (by show 0+2≤2; omega),zAG _ _ _ _ (by simp [le4]) (by simp [le4])]
 rfl
theorem zID (L:Nat) (s:List Int) (hs:s.length=32) (a:Adr) (k:Int→Option β):zi β (L+100) (row .u8 s) a.v k=k (tbk s a):=by
 simp only [zi,zlh,zuf hs,zm7,yC,zF8]
 rw [zf (by rw [zdl,hs]; omega),(zCS (β:=β) (L+100) (by omega) s hs _).2,zf ⟨rfl,by omega⟩,zF6,zf (by show 0+2≤2; omega),xM (n:=a.h) rfl,show L+100=(L+90)+10 from rfl,zxQ _ _ (by simp),xM (n:=a.p) rfl,zL7 _ _ (by simp [le4]),zDI,zAH _ _ _ _ (by simp [le4,le2]) (by simp [le4,le2]),zf (by show 0+2≤2; omega),zf (by show 0+3≤3; omega),zuZ,zxQ _ _ (by simp),zxQ _ _ (by simp [le4]),zAH _ _ _ _ (by simp [le4]) (by simp [le4])]
 rfl
end
section
set_option linter.unusedVariables false
set_option linter.unusedSimpArgs false
variable {β:Type}
def zP (a b:Adr):Bool:=a.h == b.h && a.p == b.p
theorem zHv (L:Nat) (a b:Adr) (k:Bool→Option β):zk β L a.v b.v k=k (zP a b):=by
 simp only [zk,zuj]
 rw [xM (n:=a.h) rfl,xM (n:=b.h) rfl,zd7]
 by_cases h:a.h=b.h
 ·rw [if_pos h,xM (n:=a.p) rfl,xM (n:=b.p) rfl,zP,h]
  congr 1
  simp
 ·rw [if_neg h,zP,beq_eq_false_iff_ne.2 h]; rfl
theorem zE5 (L:Nat) (ps:List Plc) (hp:ps.length≤1000000) (a:Adr) (k:Int→Option β):∀ (m i:Nat),i≤ps.length→ps.length - i < m →
  zhL zk L k (k (-1)) m (xT ps) (i:Int) a.v=k (zf7 (fun e=>zP e.a a) (ps.drop i) i)
 | 0,i,h1,h2=>by omega
 | m+1,i,h1,h2=>by
  simp only [zhL,zoX,yC,y9]
  by_cases h:i < ps.length
  ·have e1:List.take 3 (List.drop 1 ps[i].v)=ps[i].a.v:=rfl
   rw [y6 (by omega),y4 (zcs h),zf (by show 0+3≤3; omega),e1,zm7,zHv,xQ (by omega),zE5 L ps hp a k m (i+1) (by omega) (by omega),List.drop_eq_getElem_cons h,zf7]
   cases zP ps[i].a a <;> rfl
  ·rw [zao (by omega),List.drop_of_length_le (by omega)]; rfl
theorem zEv (L:Nat) (ps:List Plc) (hp:ps.length≤1000000) (hL:ps.length < L) (a:Adr) (k:Int→Option β):zg β L (xT ps) a.v k=k (zf7 (fun e=>zP e.a a) ps 0):=by
 simp only [zg,zq1,zu4]
 rw [show ((0:Int))=((0:Nat):Int) from rfl]
 exact zE5 L ps hp a k L 0 (by omega) (by omega)
end
section
set_option linter.unusedVariables false
set_option linter.unusedSimpArgs false
variable {β:Type}
def ztd (l:List Plc) (i:Nat) (v:Int):Bool:=match l[i - 8]? with
 | some e=>decide (8≤i) && e.b == v
 | none=>false
def znR (l:List Plc) (i:Nat) (v:Int):Bool:=match l[i - 1]? with
 | some e=>decide (0 < i) && decide (e.b > v)
 | none=>false
def zr8 (l:List Plc) (i:Nat):Bool:=match l[i]? with
 | some e=>zf7 (fun x=>zP x.a e.a) l 0 == (i:Int)
 | none=>true
def zsx (bk:Plc→Int) (l:List Plc) (i:Nat):Bool:=match l[i]? with
 | some e=>e.b == bk e && !(znR l i (bk e)) && !(ztd l i (bk e)) && zr8 l i
 | none=>true
def zpv (p:Nat→Bool):Nat→Nat→Bool
 | _,0=>true
 | i,n+1=>p i && zpv p (i+1) n
def zge (bk:Plc→Int) (l:List Plc):Bool:=decide (l.length≤512) && zpv (zsx bk l) 0 l.length
theorem zKV (L:Nat) (ps:List Plc) (hp:ps.length≤1000) (hL:ps.length < L) (i:Nat) (h:i < ps.length) (v:Int) (A:Option β) (K:Int→Option β) :
  (ifb (decide ((i:Int) ≥ (8:Int))) (
 lt (IntKind.wrap .i64 ((i:Int) - (8:Int))) fun x11 =>
 idx (xT ps) x11 fun c12 =>
 cI .i64 c12 0 fun v13 =>
 ifb ((v13:Int) == v) A (
 idx (xT ps) (i:Int) fun c14 =>
 zg β L (xT ps) (List.take 3 (List.drop 1 c14)) (fun v15 =>
 ifb ((v15:Int) != (i:Int)) A (
 lt (IntKind.wrap .i64 ((i:Int)+(1:Int))) fun x16 =>
 K x16)))) (
 idx (xT ps) (i:Int) fun c17 =>
 zg β L (xT ps) (List.take 3 (List.drop 1 c17)) (fun v18 =>
 ifb ((v18:Int) != (i:Int)) A (
 lt (IntKind.wrap .i64 ((i:Int)+(1:Int))) fun x19 =>
 K x19))))=ifb (!(ztd ps i v) && zr8 ps i) (K ((i+1:Nat):Int)) A:=by
 have e1:List.take 3 (List.drop 1 ps[i].v)=ps[i].a.v:=rfl
 have key:(idx (xT ps) (i:Int) fun c17 =>
   zg β L (xT ps) (List.take 3 (List.drop 1 c17)) (fun v18 =>
   ifb ((v18:Int) != (i:Int)) A (
   lt (IntKind.wrap .i64 ((i:Int)+(1:Int))) fun x19=>K x19)))=ifb (zr8 ps i) (K ((i+1:Nat):Int)) A:=by
  rw [y4 (zcs h),e1,zEv L ps (by omega) hL,yC,xQ (by omega),zr8,List.getElem?_eq_getElem h]
  simp only
  rw [zpr,zd7]
 rw [key,zap]
 by_cases h8:8≤i
 ·have g:ps[i - 8]?=some (ps[i - 8]'(by omega)):=List.getElem?_eq_getElem (by omega)
  have e8:IntKind.wrap .i64 ((i:Int) - 8)=((i - 8:Nat):Int):=by rw [zZ (by omega) (by omega)]; omega
  rw [if_pos (by omega),yC,e8,y4 (zcs (by omega)),xM (n:=(ps[i - 8]'(by omega)).b) rfl,ztd,g]
  simp only
  rw [decide_eq_true h8,Bool.true_and]
  cases ((ps[i - 8]'(by omega)).b == v) <;> rfl
 ·have e:ztd ps i v=false:=by
   unfold ztd
   rw [decide_eq_false h8]
   split <;> rfl
  rw [if_neg (by omega),e]
  rfl
theorem zI5 (L:Nat) (ps:List Plc) (hp:ps.length≤1000) (hL:ps.length < L) (i:Nat) (h:i < ps.length) (v:Int) (A:Option β) (K:Int→Option β) :
  (idx (xT ps) (i:Int) fun c6 =>
 cI .i64 c6 0 fun v7 =>
 ifb ((v7:Int) != v) A (
 ifb (decide ((i:Int) > (0:Int))) (
 lt (IntKind.wrap .i64 ((i:Int) - (1:Int))) fun x8 =>
 idx (xT ps) x8 fun c9 =>
 cI .i64 c9 0 fun v10 =>
 ifb (decide (v10 > v)) A (
 ifb (decide ((i:Int) ≥ (8:Int))) (
 lt (IntKind.wrap .i64 ((i:Int) - (8:Int))) fun x11 =>
 idx (xT ps) x11 fun c12 =>
 cI .i64 c12 0 fun v13 =>
 ifb ((v13:Int) == v) A (
 idx (xT ps) (i:Int) fun c14 =>
 zg β L (xT ps) (List.take 3 (List.drop 1 c14)) (fun v15 =>
 ifb ((v15:Int) != (i:Int)) A (
 lt (IntKind.wrap .i64 ((i:Int)+(1:Int))) fun x16 =>
 K x16)))) (
 idx (xT ps) (i:Int) fun c17 =>
 zg β L (xT ps) (List.take 3 (List.drop 1 c17)) (fun v18 =>
 ifb ((v18:Int) != (i:Int)) A (
 lt (IntKind.wrap .i64 ((i:Int)+(1:Int))) fun x19 =>
 K x19))))) (
 ifb (decide ((i:Int) ≥ (8:Int))) (
 lt (IntKind.wrap .i64 ((i:Int) - (8:Int))) fun x11 =>
 idx (xT ps) x11 fun c12 =>
 cI .i64 c12 0 fun v13 =>
 ifb ((v13:Int) == v) A (
 idx (xT ps) (i:Int) fun c14 =>
 zg β L (xT ps) (List.take 3 (List.drop 1 c14)) (fun v15 =>
 ifb ((v15:Int) != (i:Int)) A (
 lt (IntKind.wrap .i64 ((i:Int)+(1:Int))) fun x16 =>
 K x16)))) (
 idx (xT ps) (i:Int) fun c17 =>
 zg β L (xT ps) (List.take 3 (List.drop 1 c17)) (fun v18 =>
 ifb ((v18:Int) != (i:Int)) A (
 lt (IntKind.wrap .i64 ((i:Int)+(1:Int))) fun x19 =>
 K x19))))))=ifb (ps[i].b == v && !(znR ps i v) && !(ztd ps i v) && zr8 ps i) (K ((i+1:Nat):Int)) A:=by
 rw [zKV L ps hp hL i h,y4 (zcs h),xM (n:=ps[i].b) rfl,zpr]
 by_cases hb:ps[i].b=v
 ·rw [if_pos hb,hb,beq_self_eq_true,Bool.true_and,zap]
  by_cases h0:0 < i
  ·have g:ps[i - 1]?=some (ps[i - 1]'(by omega)):=List.getElem?_eq_getElem (by omega)
   have e8:IntKind.wrap .i64 ((i:Int) - 1)=((i - 1:Nat):Int):=by rw [zZ (by omega) (by omega)]; omega
   rw [if_pos (by omega),yC,e8,y4 (zcs (by omega)),xM (n:=(ps[i - 1]'(by omega)).b) rfl,znR,g]
   simp only
   rw [decide_eq_true h0,Bool.true_and]
   cases decide ((ps[i - 1]'(by omega)).b > v) <;> rfl
  ·have e:znR ps i v=false:=by
    unfold znR
    rw [decide_eq_false h0]
    split <;> rfl
   rw [if_neg (by omega),e]
   rfl
 ·rw [if_neg hb,beq_eq_false_iff_ne.2 hb]
  rfl
end
section
set_option linter.unusedVariables false
set_option linter.unusedSimpArgs false
def zbn (v:Int) (l:List Plc):Nat:=(l.filter (fun x=>x.b == v)).length
def okS (bk:Plc→Int) (N:List Adr) (pre:List Plc) (e:Plc):Bool :=
 e.b == bk e && (pre.all (fun x=>decide (x.b≤e.b)) && (decide (zbn e.b pre≤7) && (!(pre.any (fun x=>zP x.a e.a)) && !(N.any (fun a=>zP a e.a)))))
def okA (bk:Plc→Int) (N:List Adr):List Plc→List Plc→Bool
 | _,[]=>true
 | pre,e::l=>okS bk N pre e && okA bk N (pre++[e]) l
def Srt (l:List Plc):Prop:=l.Pairwise (fun x y=>x.b≤y.b)
theorem zJk {bk:Plc→Int} {N:List Adr} {pre:List Plc} {e:Plc} (h:okS bk N pre e=true):∀ x ∈ pre,x.b≤e.b:=by
 simp only [okS,Bool.and_eq_true,List.all_eq_true,decide_eq_true_eq] at h
 exact h.2.1
theorem Srt.snoc {pre:List Plc} {e:Plc} (h:Srt pre) (he:∀ x ∈ pre,x.b≤e.b):Srt (pre++[e]):=by
 unfold Srt at *
 rw [List.pairwise_append]
 exact ⟨h,by simp,fun x hx y hy=>by simp at hy; subst hy; exact he x hx⟩
theorem Srt.split:∀ {l:List Plc} (v:Int),Srt l→(∀ x ∈ l,x.b≤v)→∃ A B:List Plc,l=A++B∧(∀ x ∈ A,x.b < v)∧(∀ x ∈ B,x.b=v)
 | [],v,_,_=>⟨[],[],rfl,by simp,by simp⟩
 | x::l,v,h,hv=>by
  have h':=List.pairwise_cons.1 h
  obtain ⟨A,B,rfl,hA,hB⟩:=Srt.split v h'.2 (fun y hy=>hv y (by simp [hy]))
  by_cases hx:x.b < v
  ·exact ⟨x::A,B,rfl,by simpa using ⟨hx,hA⟩,hB⟩
  ·have hxv:x.b=v:=by have:=hv x (by simp); omega
   have:A=[]:=by
    cases A with
    | nil=>rfl
    | cons a A =>
     have h1:=hA a (by simp)
     have h2:=h'.1 a (by simp)
     omega
   subst this
   exact ⟨[],x::B,rfl,by simp,by simpa using ⟨hxv,hB⟩⟩
theorem zIy {A B:List Plc} {v:Int} (hA:∀ x ∈ A,x.b < v) (hB:∀ x ∈ B,x.b=v):zbn v (A++B)=B.length:=by
 unfold zbn
 rw [List.filter_append,List.filter_eq_nil_iff.2 (fun x hx=>by have:=hA x hx; simp; omega),List.filter_eq_self.2 (fun x hx=>by simp [hB x hx])]
 rfl
theorem zHp {l:List Plc} (h:Srt l) (v:Int) (i:Nat) (hi:i < l.length):(l.take i).all (fun x=>decide (x.b≤v))=!(znR l i v):=by
 unfold znR
 cases i with
 | zero=>cases hl:l[0 - 1]? <;> simp
 | succ i =>
  rw [Nat.add_sub_cancel,List.getElem?_eq_getElem (by omega)]
  simp only
  rw [Bool.eq_iff_iff]
  simp only [List.all_eq_true,decide_eq_true_eq,Bool.not_eq_true',Bool.and_eq_false_imp,decide_eq_false_iff_not]
  constructor
  ·intro H _ hgt
   have:=H l[i] (List.mem_take_iff_getElem.2 ⟨i,by omega,rfl⟩)
   omega
  ·intro H x hx
   have H:=H (by omega)
   obtain ⟨j,hj,rfl⟩:=List.mem_take_iff_getElem.1 hx
   by_cases hji:j=i
   ·subst hji; omega
   ·have:=List.pairwise_iff_getElem.1 h j i (by omega) (by omega) (by omega)
    omega
theorem zLz {l:List Plc} {i:Nat} (hi:i < l.length) (v:Int) (h:Srt (l.take i)) (hv:∀ x ∈ l.take i,x.b≤v):ztd l i v=!(decide (zbn v (l.take i)≤7)):=by
 obtain ⟨A,B,hAB,hA,hB⟩:=h.split v hv
 rw [hAB,zIy hA hB]
 have hlen:i=A.length+B.length:=by
  have:=congrArg List.length hAB
  rw [List.length_take,List.length_append,Nat.min_eq_left (by omega)] at this
  exact this
 unfold ztd
 rw [List.getElem?_eq_getElem (by omega)]
 simp only
 by_cases h8:8≤i
 ·have e:l[i - 8]'(by omega)=(A++B)[i - 8]'(by rw [List.length_append]; omega):=by
   have:(l.take i)[i - 8]'(by rw [List.length_take]; omega)=l[i - 8]'(by omega):=List.getElem_take
   rw [← this]
   simp only [hAB]
  rw [decide_eq_true h8,Bool.true_and,e]
  by_cases h7:B.length≤7
  ·rw [decide_eq_true h7,List.getElem_append_left (by omega)]
   have:=hA (A[i - 8]'(by omega)) (List.getElem_mem _)
   rw [beq_eq_false_iff_ne.2 (by omega)]; rfl
  ·rw [decide_eq_false h7,List.getElem_append_right (by omega)]
   rw [hB _ (List.getElem_mem _),beq_self_eq_true]; rfl
 ·rw [decide_eq_false h8,Bool.false_and,decide_eq_true (by omega)]; rfl
theorem zxZ (a:Adr):zP a a=true:=by simp [zP]
theorem zKC {l:List Plc} {i:Nat} (hi:i < l.length):zr8 l i=!((l.take i).any (fun x=>zP x.a l[i].a)):=by
 unfold zr8
 rw [List.getElem?_eq_getElem hi]
 simp only
 rcases zsB (fun x:Plc=>zP x.a l[i].a) l 0 with ⟨h1,h2⟩ | ⟨j,hj,h1,h2,h3⟩
 ·have:=h2 l[i] (List.getElem_mem hi)
  simp only [zxZ] at this
  cases this
 ·rw [h1,Nat.zero_add]
  by_cases hij:j=i
  ·subst hij
   rw [beq_self_eq_true]
   have:(l.take j).any (fun x=>zP x.a l[j].a)=false:=by
    rw [List.any_eq_false]
    intro x hx; rw [h2 x hx]; simp
   rw [this]; rfl
  ·have hlt:j < i:=by
    rcases Nat.lt_or_gt_of_ne hij with h | h
    ·exact h
    ·have:=h2 l[i] (List.mem_take_iff_getElem.2 ⟨i,by omega,rfl⟩)
     simp only [zxZ] at this
     cases this
   rw [beq_eq_false_iff_ne.2 (by omega)]
   have:(l.take i).any (fun x=>zP x.a l[i].a)=true:=List.any_eq_true.2 ⟨l[j],List.mem_take_iff_getElem.2 ⟨j,by omega,rfl⟩,h3⟩
   rw [this]; rfl
theorem zJI (bk:Plc→Int) {l:List Plc} {i:Nat} (hi:i < l.length) (h:Srt (l.take i)):zsx bk l i=okS bk [] (l.take i) l[i]:=by
 unfold zsx okS
 rw [List.getElem?_eq_getElem hi]
 simp only
 by_cases hb:l[i].b=bk l[i]
 ·rw [beq_iff_eq.2 hb,Bool.true_and,Bool.true_and,← hb,zKC hi]
  have hl:(l.take i).all (fun x=>decide (x.b≤l[i].b))=!(znR (l.take i++[l[i]]) i l[i].b):=by
   by_cases ha:∀ x ∈ l.take i,x.b≤l[i].b
   ·rw [← zHp (h.snoc ha) _ i (by rw [List.length_append,List.length_take]; simp; omega),List.take_left' (by rw [List.length_take]; omega)]
   ·have e1:(l.take i).all (fun x=>decide (x.b≤l[i].b))=false:=by
     rw [Bool.eq_false_iff]
     intro hh
     apply ha
     intro x hx
     have:=List.all_eq_true.1 hh x hx
     simpa using this
    rw [e1]
    have hex:∃ x ∈ l.take i,l[i].b < x.b:=by
     apply Classical.byContradiction
     intro hn
     exact ha (fun x hx=>by
      apply Classical.byContradiction
      intro h2
      exact hn ⟨x,hx,by omega⟩)
    obtain ⟨x,hx,hlt⟩:=hex
    obtain ⟨j,hj,rfl⟩:=List.mem_take_iff_getElem.1 hx
    unfold znR
    rw [List.getElem?_append_left (by rw [List.length_take]; omega),List.getElem?_take_of_lt (by omega),List.getElem?_eq_getElem (by omega)]
    simp only
    have:l[j].b≤(l[i - 1]'(by omega)).b:=by
     by_cases hji:j=i - 1
     ·subst hji; exact Int.le_refl _
     ·have:=List.pairwise_iff_getElem.1 h j (i - 1) (by rw [List.length_take]; omega) (by rw [List.length_take]; omega) (by omega)
      simpa using this
    rw [decide_eq_true (by omega:0 < i),decide_eq_true (by omega)]
    rfl
  have hl2:znR (l.take i++[l[i]]) i l[i].b=znR l i l[i].b:=by
   rw [← List.take_succ_eq_append_getElem hi]
   unfold znR
   by_cases h0:0 < i
   ·rw [List.getElem?_take_of_lt (by omega)]
   ·rw [decide_eq_false h0]
    cases (List.take (i+1) l)[i - 1]? <;> cases l[i - 1]? <;> simp
  rw [hl2] at hl
  rw [hl]
  cases hless:znR l i l[i].b with
  | true=>rfl
  | false =>
   rw [hless] at hl
   have ha:∀ x ∈ l.take i,x.b≤l[i].b:=fun x hx=>by simpa using List.all_eq_true.1 hl x hx
   rw [zLz hi _ h ha]
   simp [Bool.and_assoc]
 ·rw [beq_eq_false_iff_ne.2 hb]; rfl
theorem zDZ (bk:Plc→Int) (l:List Plc):∀ (n i:Nat),i+n=l.length→Srt (l.take i)→zpv (zsx bk l) i n=okA bk [] (l.take i) (l.drop i)
 | 0,i,h,hs=>by rw [List.drop_of_length_le (by omega)]; rfl
 | n+1,i,h,hs=>by
  rw [zpv,List.drop_eq_getElem_cons (by omega),okA,zJI bk (by omega) hs]
  cases ho:okS bk [] (l.take i) (l[i]'(by omega)) with
  | false=>rfl
  | true =>
   have hi:i < l.length:=by omega
   rw [Bool.true_and,Bool.true_and,zDZ bk l n (i+1) (by omega) (by rw [List.take_succ_eq_append_getElem hi]; exact hs.snoc (zJk ho)),List.take_succ_eq_append_getElem hi]
theorem zt3 (bk:Plc→Int) (l:List Plc):zge bk l=(decide (l.length≤512) && okA bk [] [] l):=by
 unfold zge
 rw [zDZ bk l l.length 0 (by omega) (by simp [Srt])]
 rfl
structure TOk (bk:Plc→Int) (N:List Adr) (l:List Plc):Prop where
 b:∀ e ∈ l,e.b=bk e
 s:Srt l
 c:∀ v,zbn v l≤8
 n:l.Pairwise (fun x y=>zP x.a y.a=false)
 f:∀ e ∈ l,∀ a ∈ N,zP a e.a=false
theorem zkb (v:Int) (pre:List Plc) (e:Plc):zbn v (pre++[e])=zbn v pre+if e.b=v then 1 else 0:=by
 unfold zbn
 rw [List.filter_append,List.length_append]
 by_cases h:e.b=v <;> simp [h]
theorem TOk.snoc (bk:Plc→Int) (N:List Adr) (pre:List Plc) (e:Plc):TOk bk N (pre++[e])↔TOk bk N pre∧okS bk N pre e=true:=by
 simp only [okS,Bool.and_eq_true,List.all_eq_true,decide_eq_true_eq,beq_iff_eq,Bool.not_eq_true',List.any_eq_false,Bool.not_eq_true]
 constructor
 ·intro h
  have hs:=List.pairwise_append.1 h.s
  have hn:=List.pairwise_append.1 h.n
  refine ⟨⟨fun x hx=>h.b x (by simp [hx]),hs.1,fun v=>?_,hn.1,fun x hx=>h.f x (by simp [hx])⟩,h.b e (by simp),fun x hx=>hs.2.2 x hx e (by simp),?_,fun x hx=>hn.2.2 x hx e (by simp),h.f e (by simp)⟩
  ·have:=h.c v; rw [zkb] at this; omega
  ·have:=h.c e.b; rw [zkb,if_pos rfl] at this; omega
 ·rintro ⟨h,h1,h2,h3,h4,h5⟩
  refine ⟨?_,h.s.snoc h2,fun v=>?_,?_,?_⟩
  ·intro x hx
   rcases List.mem_append.1 hx with hx | hx
   ·exact h.b x hx
   ·simp at hx; subst hx; exact h1
  ·rw [zkb]
   split
   ·rename_i hv; subst hv; omega
   ·have:=h.c v; omega
  ·rw [List.pairwise_append]
   exact ⟨h.n,by simp,fun x hx y hy=>by simp at hy; subst hy; exact h4 x hx⟩
  ·intro x hx
   rcases List.mem_append.1 hx with hx | hx
   ·exact h.f x hx
   ·simp at hx; subst hx; exact h5
theorem TOk.nil (bk:Plc→Int) (N:List Adr):TOk bk N []:=⟨by simp,List.Pairwise.nil,by simp [zbn],List.Pairwise.nil,by simp⟩
theorem zEj (bk:Plc→Int) (N:List Adr):∀ (l pre:List Plc),TOk bk N pre→(okA bk N pre l=true↔TOk bk N (pre++l))
 | [],pre,h=>by simp [okA,h]
 | e::l,pre,h=>by
  rw [okA,Bool.and_eq_true,show pre++e::l=(pre++[e])++l by simp]
  constructor
  ·rintro ⟨h1,h2⟩
   exact (zEj bk N l (pre++[e]) ((TOk.snoc bk N pre e).2 ⟨h,h1⟩)).1 h2
  ·intro H
   have hp:TOk bk N (pre++[e]):=by
    have hs:=List.pairwise_append.1 H.s
    have hn:=List.pairwise_append.1 H.n
    refine ⟨fun x hx=>H.b x (List.mem_append_left _ hx),hs.1,fun v=>?_,hn.1,fun x hx=>H.f x (List.mem_append_left _ hx)⟩
    have:=H.c v
    unfold zbn at this ⊢
    rw [List.filter_append,List.length_append] at this
    omega
   exact ⟨((TOk.snoc bk N pre e).1 hp).2,(zEj bk N l (pre++[e]) hp).2 H⟩
end
section
set_option linter.unusedVariables false
set_option linter.unusedSimpArgs false
variable {β:Type}
theorem zFi (bk:Plc→Int) {l:List Plc} {i:Nat} (h:i < l.length):zsx bk l i=(l[i].b == bk l[i] && !(znR l i (bk l[i])) && !(ztd l i (bk l[i])) && zr8 l i):=by
 unfold zsx; rw [List.getElem?_eq_getElem h]
theorem zHY (L:Nat) (s:List Int) (hs:s.length=32) (ps:List Plc) (hp:ps.length≤1000) (hL:ps.length < L) (k:Bool→Option β):∀ (m i:Nat),i≤ps.length→ps.length - i < m →
  zbT zi yd zg (L+100) k (k true) m (xT ps) true (i:Int) (row .u8 s)=k (zpv (zsx (fun e=>hbk s e.a e.s) ps) i (ps.length - i)):=by
 intro m
 induction m with
 | zero=>intro i h1 h2; omega
 | succ m IH =>
  intro i h1 h2
  unfold zbT ziJ
  rw [y9]
  by_cases h:i < ps.length
  ·have e1:List.take 3 (List.drop 1 ps[i].v)=ps[i].a.v:=rfl
   have ih:=IH (i+1) (by omega) (by omega)
   have e4:ps.length - i=(ps.length - (i+1))+1:=by omega
   rw [y6 (by omega),zuf hs,zf (by rw [zdl,hs]; omega),y4 (zcs h),e1,zID L s hs]
   rw [e4,zpv,zFi _ h]
   rw [zdp,zf (by rw [zdl,hs]; omega),y4 (zcs h),y4 (zcs h),xM (n:=ps[i].s) rfl,e1,zKP L s hs]
   refine (zI5 (L+100) ps hp (by omega) i h _ _ (fun x=>zbT zi yd zg (L+100) k (k true) m (xT ps) true x (row .u8 s))).trans ?_
   rw [ih]
   cases (ps[i].b == hbk s ps[i].a ps[i].s && !(znR ps i (hbk s ps[i].a ps[i].s)) && !(ztd ps i (hbk s ps[i].a ps[i].s)) && zr8 ps i) <;> rfl
  ·rw [zao (by omega),show ps.length - i=0 by omega]; rfl
theorem zHT (L:Nat) (s:List Int) (hs:s.length=32) (ps:List Plc) (hp:ps.length≤1000) (hL:ps.length < L) (k:Bool→Option β):∀ (m i:Nat),i≤ps.length→ps.length - i < m →
  zbT zi yd zg (L+100) k (k true) m (xT ps) false (i:Int) (row .u8 s)=k (zpv (zsx (fun e=>tbk s e.a) ps) i (ps.length - i)):=by
 intro m
 induction m with
 | zero=>intro i h1 h2; omega
 | succ m IH =>
  intro i h1 h2
  unfold zbT ziJ
  rw [y9]
  by_cases h:i < ps.length
  ·have e1:List.take 3 (List.drop 1 ps[i].v)=ps[i].a.v:=rfl
   have ih:=IH (i+1) (by omega) (by omega)
   have e4:ps.length - i=(ps.length - (i+1))+1:=by omega
   rw [y6 (by omega),zuf hs,zf (by rw [zdl,hs]; omega),y4 (zcs h),e1,zID L s hs]
   rw [e4,zpv,zFi _ h]
   rw [zaK]
   refine (zI5 (L+100) ps hp (by omega) i h _ _ (fun x=>zbT zi yd zg (L+100) k (k true) m (xT ps) false x (row .u8 s))).trans ?_
   rw [ih]
   cases (ps[i].b == tbk s ps[i].a && !(znR ps i (tbk s ps[i].a)) && !(ztd ps i (tbk s ps[i].a)) && zr8 ps i) <;> rfl
  ·rw [zao (by omega),show ps.length - i=0 by omega]; rfl
theorem zMc (L:Nat) (s:List Int) (hs:s.length=32) (ps:List Plc) (hp:ps.length≤1000) (hL:ps.length < L) (k:Bool→Option β) :
  yv β (L+100) (row .u8 s) (xT ps) true k=k (zge (fun e=>hbk s e.a e.s) ps):=by
 unfold yv zk1 zoJ zge
 rw [y9,zap]
 by_cases h:ps.length≤512
 ·rw [if_neg (by omega),decide_eq_true h,Bool.true_and]
  refine (zHY L s hs ps hp hL k (L+100) 0 (by omega) (by omega)).trans ?_
  rw [Nat.sub_zero]
 ·rw [if_pos (by omega),decide_eq_false h]; rfl
theorem zMo (L:Nat) (s:List Int) (hs:s.length=32) (ps:List Plc) (hp:ps.length≤1000) (hL:ps.length < L) (k:Bool→Option β) :
  yv β (L+100) (row .u8 s) (xT ps) false k=k (zge (fun e=>tbk s e.a) ps):=by
 unfold yv zk1 zoJ zge
 rw [y9,zap]
 by_cases h:ps.length≤512
 ·rw [if_neg (by omega),decide_eq_true h,Bool.true_and]
  refine (zHT L s hs ps hp hL k (L+100) 0 (by omega) (by omega)).trans ?_
  rw [Nat.sub_zero]
 ·rw [if_pos (by omega),decide_eq_false h]; rfl
def hbf (s:List Int) (e:Plc):Int:=hbk s e.a e.s
def tbf (s:List Int) (e:Plc):Int:=tbk s e.a
def znx (b:Bk):Bool:=zge (hbf b.salt) b.H && (zge (tbf b.salt) b.T && b.H.all (fun e=>!(b.T.any (fun x=>zP x.a e.a))))
theorem zMN {α:Type} (p:α→Bool) (l:List α) (a:Nat):decide (zf7 p l a ≥ 0)=l.any p:=zEO p l a
theorem zLh (L:Nat) (b:Bk) (hH:b.H.length≤1000) (hT:b.T.length≤1000) (hL:b.T.length < L) (k:Bool→Option β):∀ (m i:Nat),i≤b.H.length→b.H.length - i < m →
  zfX yv zg L k (k true) m (i:Int) b.v=k ((b.H.drop i).all (fun e=>!(b.T.any (fun x=>zP x.a e.a)))):=by
 intro m
 induction m with
 | zero=>intro i h1 h2; omega
 | succ m IH =>
  intro i h1 h2
  unfold zfX zmV
  rw [zdb b.g32,y9]
  by_cases h:i < b.H.length
  ·have e1:List.take 3 (List.drop 1 b.H[i].v)=b.H[i].a.v:=rfl
   rw [y6 (by omega),zdb b.g33,zdb b.g32,y4 (zcs h),e1,zEv L b.T (by omega) hL,zEO,List.drop_eq_getElem_cons h,List.all_cons,yC,xQ (by omega)]
   have ih:=IH (i+1) (by omega) (by omega)
   cases (b.T.any fun x=>zP x.a b.H[i].a) with
   | true=>rfl
   | false=>exact ih
  ·rw [zao (by omega),List.drop_of_length_le (by omega)]; rfl
theorem Bk.t32 (b:Bk):List.take 32 b.v=row .u8 b.salt:=by
 rw [Bk.v,List.take_left' (by rw [zdl,b.hs])]
theorem zGA (L:Nat) (b:Bk) (hH:b.H.length≤1000) (hT:b.T.length≤1000) (hL:1000 < L) (k:Bool→Option β):xk β (L+100) b.v k=k (znx b):=by
 unfold xk zoH zs6 znx
 rw [zf (by rw [b.len]; omega),zdb b.g32,b.t32,zMc L b.salt b.hs b.H hH (by omega)]
 have eH:zge (fun e=>hbk b.salt e.a e.s) b.H=zge (hbf b.salt) b.H:=rfl
 have eT:zge (fun e=>tbk b.salt e.a) b.T=zge (tbf b.salt) b.T:=rfl
 rw [eH]
 cases zge (hbf b.salt) b.H with
 | false=>rfl
 | true =>
  rw [Bool.not_true,zaK,zf (by rw [b.len]; omega),zdb b.g33,zMo L b.salt b.hs b.T hT (by omega),eT]
  cases zge (tbf b.salt) b.T with
  | false=>rfl
  | true =>
   rw [Bool.not_true,zaK]
   exact zLh (L+100) b hH hT (by omega) k (L+100) 0 (by omega) (by omega)
end
section
set_option linter.unusedVariables false
set_option linter.unusedSimpArgs false
variable {β:Type}
theorem zIw (n:Int):0≤IntKind.wrap .u64 n∧IntKind.wrap .u64 n≤18446744073709551615:=by
 unfold IntKind.wrap
 simp only [IntKind.signed,Bool.false_and,Bool.false_eq_true,if_false,IntKind.bits]
 have h1:=Int.emod_nonneg n (show (2 ^ 64:Int)≠0 by decide)
 have h2:=Int.emod_lt_of_pos n (show (0:Int) < 2 ^ 64 by decide)
 omega
theorem zFc (s m1:List Int) (m2:Int→List Int):0≤bkt s m1 m2∧bkt s m1 m2 < 64:=by
 unfold bkt
 generalize hx:ztU (zIO s) (zIm s) (m2 (IntKind.wrap .u32 (Int.tmod (ztU (zIO s) (zIm s) m1) 4)))=x
 have h0:0≤x:=by
  rw [← hx]; unfold ztU zH7 zF7 zbI; exact (zIw _).1
 have h1:=Int.tmod_nonneg 64 h0
 have h2:=Int.tmod_lt_of_pos x (show (0:Int) < 64 by decide)
 rw [zZ (by omega) (by omega)]
 exact ⟨h1,h2⟩
theorem zFl (s:List Int) (e:Plc):0≤hbf s e∧hbf s e < 64:=by unfold hbf hbk; exact zFc _ _ _
theorem zFk (s:List Int) (e:Plc):0≤tbf s e∧tbf s e < 64:=by unfold tbf tbk; exact zFc _ _ _
def nmv (a:Adr):V:=.agg [.sc (.int .u32 a.h),.sc (.int .u16 a.p)]
def zd3 (N:List Adr):List (V × V):=N.map fun a=>(nmv a,.sc (.bool true))
theorem zGh (a b:Adr):zlN (nmv a) (nmv b)=some (zP a b):=by
 simp [zlN,nmv,ze7,zP]
theorem zkz (a b:Adr):zP a b=zP b a:=by
 unfold zP; rw [Bool.beq_comm (a:=a.h),Bool.beq_comm (a:=a.p)]
theorem zBA (a:Adr):∀ N:List Adr,zt2 (nmv a) (zd3 N)=some (if N.any (fun x=>zP x a) then some (.sc (.bool true)) else none)
 | []=>rfl
 | x::N=>by
  have ih:=zBA a N
  simp only [zd3,List.map_cons,zt2,zGh,List.any_cons,zkz x a] at ih ⊢
  cases zP a x with
  | true=>rfl
  | false=>simpa using ih
theorem zDb (a:Adr):∀ N:List Adr,N.any (fun x=>zP x a)=false→zB9 (nmv a) (.sc (.bool true)) (zd3 N)=some (zd3 (N++[a]))
 | [],_=>rfl
 | x::N,h=>by
  rw [List.any_cons,Bool.or_eq_false_iff,zkz] at h
  have ih:=zDb a N h.2
  simp only [zd3,List.map_cons,zB9,zGh,h.1,List.cons_append] at ih ⊢
  rw [ih]; rfl
theorem zE9 (a:Adr) (N:List Adr) (K:Bool→Option β):(mAt 4 (V.agg (List.take 2 [(V.sc (.int .u32 a.h)),(V.sc (.int .u16 a.p))])) (zd3 N) fun q=>aB (Option.getD q (V.sc (.bool false))) K)=K (N.any (fun x=>zP x a)):=by
 have e:V.agg (List.take 2 [(V.sc (.int .u32 a.h)),(V.sc (.int .u16 a.p))])=nmv a:=rfl
 rw [e]
 have h:zkq 4 (nmv a)=true:=rfl
 simp only [mAt,h,zBA]
 cases N.any (fun x=>zP x a) <;> rfl
theorem zDs {a:Adr} {N:List Adr} (h:N.any (fun x=>zP x a)=false) (K:List (V × V)→Option β):zwC 4 (V.agg (List.take 2 [(V.sc (.int .u32 a.h)),(V.sc (.int .u16 a.p))])) (V.sc (.bool true)) (zd3 N) K=K (zd3 (N++[a])):=by
 have e:V.agg (List.take 2 [(V.sc (.int .u32 a.h)),(V.sc (.int .u16 a.p))])=nmv a:=rfl
 rw [e]
 have h':zkq 4 (nmv a)=true:=rfl
 simp only [zwC,h',zDb a N h]
theorem zMV (L:Nat) (b:Bk) (e:Plc) (k:Int→List V→Option β):ym β (L+100) e.v b.v k=k (hbf b.salt e) b.v:=by
 unfold ym zmg
 have e1:List.take 3 (List.drop 1 e.v)=e.a.v:=rfl
 rw [zf (by rw [b.len]; omega),zf (by show 1+3≤5; omega),xM (n:=e.s) rfl,b.t32,e1,zMp L b.salt b.hs]
 rfl
theorem zMD (L:Nat) (b:Bk) (e:Plc) (k:Int→List V→Option β):xm β (L+100) e.v b.v k=k (tbf b.salt e) b.v:=by
 unfold xm zmo
 have e1:List.take 3 (List.drop 1 e.v)=e.a.v:=rfl
 rw [zf (by rw [b.len]; omega),zf (by show 1+3≤5; omega),b.t32,e1,zMn L b.salt b.hs]
 rfl
theorem zFs {v:Int} {pre:List Plc} (h:∀ x ∈ pre,x.b < v):zbn v pre=0:=by
 unfold zbn
 rw [List.filter_eq_nil_iff.2 (fun x hx=>by have:=h x hx; simp; omega)]; rfl
structure Inv (pre:List Plc) (la ru:Int):Prop where
 le:∀ x ∈ pre,x.b≤la
 ru:ru=(zbn la pre:Nat)
 ex:(la=-1∧pre=[])∨∃ x ∈ pre,x.b=la
 mn:-1≤la
theorem Inv.next {pre:List Plc} {la ru:Int} (h:Inv pre la ru) {e:Plc} (he:la≤e.b):Inv (pre++[e]) e.b ((zbn e.b (pre++[e]):Nat):Int) :=
 ⟨fun x hx=>by
  rcases List.mem_append.1 hx with hx | hx
  ·have:=h.le x hx; omega
  ·simp at hx; subst hx; exact Int.le_refl _,rfl,.inr ⟨e,by simp,rfl⟩,by have:=h.mn; omega⟩
theorem zJx {bk:Plc→Int} {N:List Adr} {pre:List Plc} {la ru:Int} (h:Inv pre la ru) {e:Plc} (hb:0≤bk e) (he:e.b < la):okS bk N pre e=false:=by
 rw [Bool.eq_false_iff]
 intro H
 have h1:=zJk H
 rcases h.ex with ⟨h2,h3⟩ | ⟨x,hx,h2⟩
 ·simp only [okS,Bool.and_eq_true,beq_iff_eq] at H
  omega
 ·have:=h1 x hx; omega
theorem zJq {bk:Plc→Int} {N:List Adr} {pre:List Plc} {la ru:Int} (h:Inv pre la ru) {e:Plc} (he:la≤e.b):okS bk N pre e=(e.b == bk e && (decide (zbn e.b (pre++[e])≤8) && !((N++pre.map Plc.a).any (fun a=>zP a e.a)))):=by
 unfold okS
 have h1:pre.all (fun x=>decide (x.b≤e.b))=true:=List.all_eq_true.2 fun x hx=>decide_eq_true (by have:=h.le x hx; omega)
 rw [h1,Bool.true_and,zkb,if_pos rfl,List.any_append,List.any_map,Bool.not_or]
 have e1:decide (zbn e.b pre+1≤8)=decide (zbn e.b pre≤7):=decide_eq_decide.2 (by omega)
 rw [e1]
 congr 2
 rw [Bool.and_comm]; rfl
theorem zIr (L:Nat) (b:Bk) (l:List Plc) (hl:l.length≤1000) (N:List Adr) (kr:Bool→List (V × V)→List V→Option β) (kx:List (V × V)→List V→Option β) (R:Option β) (hr:∀ mp,kr false mp b.v=R):∀ (m i:Nat) (la ru:Int),i≤l.length→l.length - i < m→Inv (l.take i) la ru →
  zc9 ym (L+100) kr kx m la ru (xT l) ((l.length:Nat):Int) (i:Int) (zd3 (N++(l.take i).map Plc.a)) b.v=ifb (okA (hbf b.salt) N (l.take i) (l.drop i)) (kx (zd3 (N++l.map Plc.a)) b.v) R:=by
 intro m
 induction m with
 | zero=>intro i la ru h1 h2; omega
 | succ m IH =>
  intro i la ru h1 h2 hi
  unfold zc9 ziW
  by_cases h:i < l.length
  ·have e1:List.take 5 l[i].v=l[i].v:=rfl
   have e2:yk [(V.sc (.int .i64 (0:Int))),(V.sc (.int .u32 (0:Int))),(V.sc (.int .u16 (0:Int))),(V.sc (.int .u32 (0:Int))),(V.sc (.int .u32 (0:Int)))] 0 l[i].v=l[i].v:=zeE rfl
   have hcl:zbn la (l.take i)≤l.length:=by
    unfold zbn
    exact Nat.le_trans (List.length_filter_le _ _) (by rw [List.length_take]; omega)
   rw [y6 (by omega),y4 (zcs h),e1,zf ⟨rfl,by omega⟩,yC,e2,xM (n:=l[i].b) rfl,zap,List.drop_eq_getElem_cons h,okA]
   by_cases hlt:l[i].b < la
   ·rw [if_pos hlt,zJx hi (zFl _ _).1 hlt,Bool.false_and,hr]; rfl
   ·rw [if_neg hlt,xM (n:=l[i].b) rfl,zf (by show 0+5≤5; omega),e1,zMV,zf rfl,zpr,zJq hi (by omega)]
    by_cases hb:l[i].b=hbf b.salt l[i]
    ·have hi':=hi.next (e:=l[i]) (by omega)
     have key:∀ ru':Int,ru'=((zbn l[i].b (l.take i++[l[i]]):Nat):Int) →
       (cI .u32 l[i].v 1 fun v9 =>
        cI .u16 l[i].v 2 fun v10 =>
        lt [(V.sc (.int .u32 v9)),(V.sc (.int .u16 v10))] fun r11 =>
        ifb (decide (ru' > (8:Int))) (
        kr false (zd3 (N++(l.take i).map Plc.a)) b.v) (
        chk (0+2≤(List.length r11)) (
        mAt 4 (V.agg (List.take 2 r11)) (zd3 (N++(l.take i).map Plc.a)) fun q12 =>
        aB (Option.getD q12 (V.sc (.bool false))) fun v13 =>
        ifb v13 (
        kr false (zd3 (N++(l.take i).map Plc.a)) b.v) (
        chk (0+2≤(List.length r11)) (
        zwC 4 (V.agg (List.take 2 r11)) (V.sc (.bool true)) (zd3 (N++(l.take i).map Plc.a)) fun m14 =>
        lt (IntKind.wrap .i64 ((i:Int)+(1:Int))) fun x15 =>
        zc9 ym (L+100) kr kx m l[i].b ru' (xT l) ((l.length:Nat):Int) x15 m14 b.v)))))
       = ifb (decide (zbn l[i].b (l.take i++[l[i]])≤8) && !((N++(l.take i).map Plc.a).any (fun a=>zP a l[i].a)) && okA (hbf b.salt) N (l.take i++[l[i]]) (l.drop (i+1))) (kx (zd3 (N++l.map Plc.a)) b.v) R:=by
      intro ru' hru
      rw [xM (n:=l[i].a.h) rfl,xM (n:=l[i].a.p) rfl,yC,zap]
      by_cases hc:zbn l[i].b (l.take i++[l[i]])≤8
      ·rw [if_neg (by omega),decide_eq_true hc,Bool.true_and,zf (by show 0+2≤2; omega),zE9]
       cases ha:(N++(l.take i).map Plc.a).any (fun a=>zP a l[i].a) with
       | true=>exact hr _
       | false =>
        rw [zaK,zf (by show 0+2≤2; omega),zDs ha,yC,xQ (by omega)]
        have ih:=IH (i+1) l[i].b ru' (by omega) (by omega) (by rw [List.take_succ_eq_append_getElem h,hru]; exact hi')
        rw [List.take_succ_eq_append_getElem h,List.map_append,List.map_cons,List.map_nil,← List.append_assoc] at ih
        exact ih
      ·rw [if_pos (by omega),decide_eq_false hc,hr]; rfl
     rw [if_pos hb,xM (n:=l[i].b) rfl,zpr,beq_iff_eq.2 hb,Bool.true_and]
     by_cases hll:l[i].b=la
     ·rw [if_pos hll,yC,← hll]
      have e3:IntKind.wrap .i64 (ru+1)=((zbn l[i].b (l.take i++[l[i]]):Nat):Int):=by
       rw [hi.ru,zZ (by omega) (by omega),zkb,if_pos rfl,hll]; omega
      exact key _ e3
     ·rw [if_neg hll,xM (n:=l[i].b) rfl,yC]
      have e3:IntKind.wrap .i64 (((0:Int):Int)+1)=((zbn l[i].b (l.take i++[l[i]]):Nat):Int):=by
       rw [zZ (by omega) (by omega),zkb,if_pos rfl,zFs (fun x hx=>by have:=hi.le x hx; omega)]; rfl
      exact key _ e3
    ·rw [if_neg hb,beq_eq_false_iff_ne.2 hb,hr]; rfl
  ·rw [zao (by omega),List.drop_of_length_le (by omega),List.take_of_length_le (by omega)]; rfl
theorem zMh (L:Nat) (b:Bk) (l:List Plc) (hl:l.length≤1000) (hL:1000 < L) (N:List Adr) (k:Bool→List (V × V)→List V→Option β) (R:Option β) (hr:∀ mp,k false mp b.v=R) :
  xZ β (L+100) (xT l) (zd3 N) b.v k=ifb (decide (l.length≤512) && okA (hbf b.salt) N [] l) (k true (zd3 (N++l.map Plc.a)) b.v) R:=by
 unfold xZ zkd zpc
 rw [y9,zap]
 by_cases h:l.length≤512
 ·rw [if_neg (by omega),decide_eq_true h,Bool.true_and,show ((0:Int))=((0:Nat):Int) from rfl]
  have:=zIr L b l hl N (fun p6 b0 b1=>zg0 ym (L+100) p6 b0 b1 k) (fun b0 b1=>zhC ym (L+100) b0 b1 k) R (fun mp=>hr mp) (L+100) 0 (-1) 0 (by omega) (by omega) ⟨by simp,rfl,.inl ⟨rfl,rfl⟩,by omega⟩
  rw [List.take_zero,List.drop_zero,List.map_nil,List.append_nil] at this
  exact this
 ·rw [if_pos (by omega),decide_eq_false h,hr]; rfl
theorem zId (L:Nat) (b:Bk) (l:List Plc) (hl:l.length≤1000) (N:List Adr) (kr:Bool→List (V × V)→List V→Option β) (kx:List (V × V)→List V→Option β) (R:Option β) (hr:∀ mp,kr false mp b.v=R):∀ (m i:Nat) (la ru:Int),i≤l.length→l.length - i < m→Inv (l.take i) la ru →
  zco xm (L+100) kr kx m la ru (xT l) ((l.length:Nat):Int) (i:Int) (zd3 (N++(l.take i).map Plc.a)) b.v=ifb (okA (tbf b.salt) N (l.take i) (l.drop i)) (kx (zd3 (N++l.map Plc.a)) b.v) R:=by
 intro m
 induction m with
 | zero=>intro i la ru h1 h2; omega
 | succ m IH =>
  intro i la ru h1 h2 hi
  unfold zco zhK
  by_cases h:i < l.length
  ·have e1:List.take 5 l[i].v=l[i].v:=rfl
   have e2:yk [(V.sc (.int .i64 (0:Int))),(V.sc (.int .u32 (0:Int))),(V.sc (.int .u16 (0:Int))),(V.sc (.int .u32 (0:Int))),(V.sc (.int .u32 (0:Int)))] 0 l[i].v=l[i].v:=zeE rfl
   have hcl:zbn la (l.take i)≤l.length:=by
    unfold zbn
    exact Nat.le_trans (List.length_filter_le _ _) (by rw [List.length_take]; omega)
   rw [y6 (by omega),y4 (zcs h),e1,zf ⟨rfl,by omega⟩,yC,e2,xM (n:=l[i].b) rfl,zap,List.drop_eq_getElem_cons h,okA]
   by_cases hlt:l[i].b < la
   ·rw [if_pos hlt,zJx hi (zFk _ _).1 hlt,Bool.false_and,hr]; rfl
   ·rw [if_neg hlt,xM (n:=l[i].b) rfl,zf (by show 0+5≤5; omega),e1,zMD,zf rfl,zpr,zJq hi (by omega)]
    by_cases hb:l[i].b=tbf b.salt l[i]
    ·have hi':=hi.next (e:=l[i]) (by omega)
     have key:∀ ru':Int,ru'=((zbn l[i].b (l.take i++[l[i]]):Nat):Int) →
       (cI .u32 l[i].v 1 fun v9 =>
        cI .u16 l[i].v 2 fun v10 =>
        lt [(V.sc (.int .u32 v9)),(V.sc (.int .u16 v10))] fun r11 =>
        ifb (decide (ru' > (8:Int))) (
        kr false (zd3 (N++(l.take i).map Plc.a)) b.v) (
        chk (0+2≤(List.length r11)) (
        mAt 4 (V.agg (List.take 2 r11)) (zd3 (N++(l.take i).map Plc.a)) fun q12 =>
        aB (Option.getD q12 (V.sc (.bool false))) fun v13 =>
        ifb v13 (
        kr false (zd3 (N++(l.take i).map Plc.a)) b.v) (
        chk (0+2≤(List.length r11)) (
        zwC 4 (V.agg (List.take 2 r11)) (V.sc (.bool true)) (zd3 (N++(l.take i).map Plc.a)) fun m14 =>
        lt (IntKind.wrap .i64 ((i:Int)+(1:Int))) fun x15 =>
        zco xm (L+100) kr kx m l[i].b ru' (xT l) ((l.length:Nat):Int) x15 m14 b.v)))))
       = ifb (decide (zbn l[i].b (l.take i++[l[i]])≤8) && !((N++(l.take i).map Plc.a).any (fun a=>zP a l[i].a)) && okA (tbf b.salt) N (l.take i++[l[i]]) (l.drop (i+1))) (kx (zd3 (N++l.map Plc.a)) b.v) R:=by
      intro ru' hru
      rw [xM (n:=l[i].a.h) rfl,xM (n:=l[i].a.p) rfl,yC,zap]
      by_cases hc:zbn l[i].b (l.take i++[l[i]])≤8
      ·rw [if_neg (by omega),decide_eq_true hc,Bool.true_and,zf (by show 0+2≤2; omega),zE9]
       cases ha:(N++(l.take i).map Plc.a).any (fun a=>zP a l[i].a) with
       | true=>exact hr _
       | false =>
        rw [zaK,zf (by show 0+2≤2; omega),zDs ha,yC,xQ (by omega)]
        have ih:=IH (i+1) l[i].b ru' (by omega) (by omega) (by rw [List.take_succ_eq_append_getElem h,hru]; exact hi')
        rw [List.take_succ_eq_append_getElem h,List.map_append,List.map_cons,List.map_nil,← List.append_assoc] at ih
        exact ih
      ·rw [if_pos (by omega),decide_eq_false hc,hr]; rfl
     rw [if_pos hb,xM (n:=l[i].b) rfl,zpr,beq_iff_eq.2 hb,Bool.true_and]
     by_cases hll:l[i].b=la
     ·rw [if_pos hll,yC,← hll]
      have e3:IntKind.wrap .i64 (ru+1)=((zbn l[i].b (l.take i++[l[i]]):Nat):Int):=by
       rw [hi.ru,zZ (by omega) (by omega),zkb,if_pos rfl,hll]; omega
      exact key _ e3
     ·rw [if_neg hll,xM (n:=l[i].b) rfl,yC]
      have e3:IntKind.wrap .i64 (((0:Int):Int)+1)=((zbn l[i].b (l.take i++[l[i]]):Nat):Int):=by
       rw [zZ (by omega) (by omega),zkb,if_pos rfl,zFs (fun x hx=>by have:=hi.le x hx; omega)]; rfl
      exact key _ e3
    ·rw [if_neg hb,beq_eq_false_iff_ne.2 hb,hr]; rfl
  ·rw [zao (by omega),List.drop_of_length_le (by omega),List.take_of_length_le (by omega)]; rfl
theorem zMf (L:Nat) (b:Bk) (l:List Plc) (hl:l.length≤1000) (hL:1000 < L) (N:List Adr) (k:Bool→List (V × V)→List V→Option β) (R:Option β) (hr:∀ mp,k false mp b.v=R) :
  yT β (L+100) (xT l) (zd3 N) b.v k=ifb (decide (l.length≤512) && okA (tbf b.salt) N [] l) (k true (zd3 (N++l.map Plc.a)) b.v) R:=by
 unfold yT zis zmn
 rw [y9,zap]
 by_cases h:l.length≤512
 ·rw [if_neg (by omega),decide_eq_true h,Bool.true_and,show ((0:Int))=((0:Nat):Int) from rfl]
  have:=zId L b l hl N (fun p6 b0 b1=>zga xm (L+100) p6 b0 b1 k) (fun b0 b1=>zgD xm (L+100) b0 b1 k) R (fun mp=>hr mp) (L+100) 0 (-1) 0 (by omega) (by omega) ⟨by simp,rfl,.inl ⟨rfl,rfl⟩,by omega⟩
  rw [List.take_zero,List.drop_zero,List.map_nil,List.append_nil] at this
  exact this
 ·rw [if_pos (by omega),decide_eq_false h,hr]; rfl
def zAL (b:Bk):Bool:=(decide (b.H.length≤512) && okA (hbf b.salt) [] [] b.H) && (decide (b.T.length≤512) && okA (tbf b.salt) (b.H.map Plc.a) [] b.T)
theorem zLX (L:Nat) (b:Bk) (hH:b.H.length≤1000) (hT:b.T.length≤1000) (hL:1000 < L) (k:Bool→Option β):xp β (L+100) b.v k=k (zAL b):=by
 unfold xp zo1 zAL
 rw [zdb b.g32]
 refine (zMh L b b.H hH hL [] _ (k false) (fun mp=>zf rfl _)).trans ?_
 rw [List.nil_append]
 cases (decide (b.H.length≤512) && okA (hbf b.salt) [] [] b.H) with
 | false=>rfl
 | true =>
  rw [zdp,zf rfl,zdp,zdb b.g33]
  refine (zMf L b b.T hT hL _ _ (k false) (fun mp=>zf rfl _)).trans ?_
  cases (decide (b.T.length≤512) && okA (tbf b.salt) (b.H.map Plc.a) [] b.T) with
  | false=>rfl
  | true=>exact zf rfl _
theorem zMe (bk:Plc→Int) (N:List Adr) (pre:List Plc) (e:Plc):okS bk N pre e=(okS bk [] pre e && !(N.any (fun a=>zP a e.a))):=by
 unfold okS
 simp [Bool.and_assoc]
theorem zKL (bk:Plc→Int) (N:List Adr):∀ (l pre:List Plc),okA bk N pre l=(okA bk [] pre l && l.all (fun e=>!(N.any (fun a=>zP a e.a))))
 | [],pre=>rfl
 | e::l,pre=>by
  rw [okA,okA,zMe,zKL bk N l,List.all_cons]
  cases okS bk [] pre e <;> cases (N.any (fun a=>zP a e.a)) <;> simp
theorem zKA (H T:List Plc):T.all (fun e=>!((H.map Plc.a).any (fun a=>zP a e.a)))=H.all (fun e=>!(T.any (fun x=>zP x.a e.a))):=by
 rw [Bool.eq_iff_iff]
 simp only [List.all_eq_true,Bool.not_eq_true',List.any_eq_false,List.mem_map,Bool.not_eq_true,forall_exists_index,and_imp,forall_apply_eq_imp_iff₂]
 constructor
 ·intro h x hx e he; rw [zkz]; exact h e he x hx
 ·intro h x hx e he; rw [zkz]; exact h e he x hx
theorem zKl (b:Bk):zAL b=znx b:=by
 unfold zAL znx
 rw [zt3,zt3,zKL (tbf b.salt) (b.H.map Plc.a),zKA]
 simp [Bool.and_assoc]
end
section
set_option linter.unusedVariables false
set_option linter.unusedSimpArgs false
def zaJ (l:List Plc) (v:Int):Nat:=(l.takeWhile (fun x=>decide (x.b < v))).length
def toN (l:List Plc) (v:Int):Nat:=zaJ l v+((l.drop (zaJ l v)).takeWhile (fun x=>x.b == v)).length
def znM (l:List Plc) (p:Plc):List Plc:=l.take (toN l p.b)++[p]++l.drop (toN l p.b)
def zid (l:List Plc) (i:Nat):List Plc:=l.take i++l.drop (i+1)
def zKi (t:Int) (e:Plc):Plc:=⟨e.b,⟨e.a.h,e.a.p,zII e.a.t t⟩,e.s⟩
def zxL (l:List Plc) (i:Nat) (t:Int):List Plc:=l.modify i (zKi t)
def zzK (l:List Plc) (i:Nat):Int:=match l[i]? with | some e=>e.a.t | none=>0
def zow (l:List Plc):Nat→Nat→Nat→Nat
 | 0,_,m=>m
 | n+1,i,m=>zow l n (i+1) (if zzK l i < zzK l m then i else m)
def znk (b:Bk) (a:Adr) (src:Int):Bk × Bool :=
 if zf7 (fun x=>zP x.a a) b.T 0 ≥ 0 then (⟨b.salt,b.H,zxL b.T (zf7 (fun x=>zP x.a a) b.T 0).toNat a.t,b.hs⟩,false)
 else if zf7 (fun x=>zP x.a a) b.H 0 ≥ 0 then (⟨b.salt,zxL b.H (zf7 (fun x=>zP x.a a) b.H 0).toNat a.t,b.T,b.hs⟩,false)
 else if toN b.H (hbk b.salt a src) - zaJ b.H (hbk b.salt a src) ≥ 8 then
  (if zzK b.H (zow b.H (toN b.H (hbk b.salt a src) - zaJ b.H (hbk b.salt a src)) (zaJ b.H (hbk b.salt a src)) (zaJ b.H (hbk b.salt a src))) ≥ a.t then (b,false)
   else (⟨b.salt,znM (zid b.H (zow b.H (toN b.H (hbk b.salt a src) - zaJ b.H (hbk b.salt a src)) (zaJ b.H (hbk b.salt a src)) (zaJ b.H (hbk b.salt a src)))) ⟨hbk b.salt a src,a,src⟩,b.T,b.hs⟩,true))
 else (⟨b.salt,znM b.H ⟨hbk b.salt a src,a,src⟩,b.T,b.hs⟩,true)
def zhx (b:Bk) (e:Plc):Plc:=⟨tbk b.salt e.a,e.a,e.s⟩
def zx5 (b:Bk) (i:Nat) (e:Plc):Bk :=
 if toN b.T (tbk b.salt e.a) - zaJ b.T (tbk b.salt e.a) ≥ 8 then
  (match b.T[zaJ b.T (tbk b.salt e.a)]? with
   | some o=>(znk ⟨b.salt,zid b.H i,znM (zid b.T (zaJ b.T (tbk b.salt e.a))) (zhx b e),b.hs⟩ o.a (grp o.a)).1
   | none=>b)
 else ⟨b.salt,zid b.H i,znM b.T (zhx b e),b.hs⟩
theorem Srt.split3 {l:List Plc} (v:Int) (h:Srt l):∃ A B C:List Plc,l=A++(B++C)∧(∀ x ∈ A,x.b < v)∧(∀ x ∈ B,x.b=v)∧(∀ x ∈ C,v < x.b):=by
 induction l with
 | nil=>exact ⟨[],[],[],rfl,by simp,by simp,by simp⟩
 | cons x l ih =>
  have h':=List.pairwise_cons.1 h
  obtain ⟨A,B,C,rfl,hA,hB,hC⟩:=ih h'.2
  by_cases hx:x.b < v
  ·exact ⟨x::A,B,C,rfl,by simpa using ⟨hx,hA⟩,hB,hC⟩
  ·have eA:A=[]:=by
    cases A with
    | nil=>rfl
    | cons a A =>
     have h1:=hA a (by simp)
     have h2:=h'.1 a (by simp)
     omega
   subst eA
   by_cases hxv:x.b=v
   ·exact ⟨[],x::B,C,rfl,by simp,by simpa using ⟨hxv,hB⟩,hC⟩
   ·have eB:B=[]:=by
     cases B with
     | nil=>rfl
     | cons a B =>
      have h1:=hB a (by simp)
      have h2:=h'.1 a (by simp)
      omega
    subst eB
    exact ⟨[],[],x::C,rfl,by simp,by simp,by simpa using ⟨by omega,hC⟩⟩
theorem zxP {A B C:List Plc} {v:Int} (hA:∀ x ∈ A,x.b < v) (hB:∀ x ∈ B,x.b=v) (hC:∀ x ∈ C,v < x.b):zaJ (A++(B++C)) v=A.length:=by
 unfold zaJ
 rw [List.takeWhile_append_of_pos (fun x hx=>decide_eq_true (hA x hx))]
 have:(B++C).takeWhile (fun x=>decide (x.b < v))=[]:=by
  cases B with
  | cons b B=>rw [List.cons_append,List.takeWhile_cons,if_neg (by have:=hB b (by simp); simp; omega)]
  | nil=>cases C with
   | nil=>rfl
   | cons c C=>rw [List.nil_append,List.takeWhile_cons,if_neg (by have:=hC c (by simp); simp; omega)]
 rw [this,List.append_nil]
theorem zB6 {A B C:List Plc} {v:Int} (hA:∀ x ∈ A,x.b < v) (hB:∀ x ∈ B,x.b=v) (hC:∀ x ∈ C,v < x.b):toN (A++(B++C)) v=A.length+B.length:=by
 unfold toN
 rw [zxP hA hB hC,List.drop_left' rfl,List.takeWhile_append_of_pos (fun x hx=>beq_iff_eq.2 (hB x hx))]
 have:C.takeWhile (fun x=>x.b == v)=[]:=by
  cases C with
  | nil=>rfl
  | cons c C=>rw [List.takeWhile_cons,if_neg (by have:=hC c (by simp); simp; omega)]
 rw [this,List.append_nil]
theorem zzT {A B C:List Plc} {p:Plc} (hA:∀ x ∈ A,x.b < p.b) (hB:∀ x ∈ B,x.b=p.b) (hC:∀ x ∈ C,p.b < x.b):znM (A++(B++C)) p=A++(B++(p::C)):=by
 unfold znM
 rw [zB6 hA hB hC,← List.append_assoc,List.take_left' (by simp),List.drop_left' (by simp)]
 simp
theorem zxg {l' l:List Plc} (h:l'.Sublist l) (v:Int):zbn v l'≤zbn v l:=(h.filter _).length_le
theorem TOk.sub {bk:Plc→Int} {N:List Adr} {l l':List Plc} (h:TOk bk N l) (hs:l'.Sublist l):TOk bk N l' :=
 ⟨fun e he=>h.b e (hs.subset he),h.s.sublist hs,fun v=>Nat.le_trans (zxg hs v) (h.c v),h.n.sublist hs,fun e he=>h.f e (hs.subset he)⟩
theorem zgF (l:List Plc) (i:Nat):(zid l i).Sublist l:=by
 unfold zid
 rw [← List.eraseIdx_eq_take_drop_succ]
 exact List.eraseIdx_sublist l i
theorem zxF {l:List Plc} {p x:Plc} (h:x ∈ znM l p):x=p∨x ∈ l:=by
 unfold znM at h
 simp only [List.mem_append,List.mem_singleton] at h
 rcases h with (h | h) | h
 ·exact .inr (List.mem_of_mem_take h)
 ·exact .inl h
 ·exact .inr (List.mem_of_mem_drop h)
theorem TOk.ins {bk:Plc→Int} {N:List Adr} {l:List Plc} (h:TOk bk N l) {p:Plc} (hb:p.b=bk p) (hc:zbn p.b l≤7) (hn:∀ x ∈ l,zP x.a p.a=false) (hf:∀ a ∈ N,zP a p.a=false):TOk bk N (znM l p):=by
 obtain ⟨A,B,C,rfl,hA,hB,hC⟩:=h.s.split3 p.b
 have hs:=h.s
 have hnn:=h.n
 refine ⟨fun e he=>?_,?_,fun v=>?_,?_,fun e he=>?_⟩
 ·rcases zxF he with rfl | he
  ·exact hb
  ·exact h.b e he
 ·rw [zzT hA hB hC]
  unfold Srt at hs ⊢
  simp only [List.pairwise_append,List.pairwise_cons,List.mem_append,List.mem_cons] at hs ⊢
  obtain ⟨sA,⟨sB,sC,sBC⟩,sABC⟩:=hs
  refine ⟨sA,⟨sB,⟨fun c hc=>Int.le_of_lt (hC c hc),sC⟩,?_⟩,?_⟩
  ·rintro x hx y (rfl | hy)
   ·rw [hB x hx]; exact Int.le_refl _
   ·exact sBC x hx y hy
  ·rintro x hx y (hy | rfl | hy)
   ·exact sABC x hx y (.inl hy)
   ·exact Int.le_of_lt (hA x hx)
   ·exact sABC x hx y (.inr hy)
 ·have hv:=h.c v
  rw [zzT hA hB hC]
  have e:zbn v (A++(B++p::C))=zbn v (A++(B++C))+if p.b=v then 1 else 0:=by
   unfold zbn
   simp only [List.filter_append,List.length_append,List.filter_cons,beq_iff_eq]
   split <;> simp <;> omega
  rw [e]
  split
  ·rename_i hp; rw [← hp]; omega
  ·omega
 ·rw [zzT hA hB hC]
  simp only [List.mem_append] at hn
  simp only [List.pairwise_append,List.pairwise_cons,List.mem_append,List.mem_cons] at hnn ⊢
  obtain ⟨sA,⟨sB,sC,sBC⟩,sABC⟩:=hnn
  refine ⟨sA,⟨sB,⟨fun c hc=>by rw [zkz]; exact hn c (.inr (.inr hc)),sC⟩,?_⟩,?_⟩
  ·rintro x hx y (rfl | hy)
   ·exact hn x (.inr (.inl hx))
   ·exact sBC x hx y hy
  ·rintro x hx y (hy | rfl | hy)
   ·exact sABC x hx y (.inl hy)
   ·exact hn x (.inl hx)
   ·exact sABC x hx y (.inr hy)
 ·rcases zxF he with rfl | he
  ·exact hf
  ·exact h.f e he
theorem zGC {bk:Plc→Int} {N:List Adr} {l:List Plc} (h:TOk bk N l) (v:Int):toN l v - zaJ l v=zbn v l:=by
 obtain ⟨A,B,C,rfl,hA,hB,hC⟩:=h.s.split3 v
 rw [zB6 hA hB hC,zxP hA hB hC]
 unfold zbn
 rw [List.filter_append,List.filter_append,List.filter_eq_nil_iff.2 (fun x hx=>by have:=hA x hx; simp; omega),List.filter_eq_self.2 (fun x hx=>by simp [hB x hx]),List.filter_eq_nil_iff.2 (fun x hx=>by have:=hC x hx; simp; omega)]
 simp
theorem zAI (l:List Plc) (v:Int):zaJ l v≤toN l v∧toN l v≤l.length:=by
 unfold toN
 have h1:zaJ l v≤l.length:=by unfold zaJ; exact (List.takeWhile_sublist _).length_le
 have h2:=(List.takeWhile_sublist (fun x:Plc=>x.b == v) (l:=l.drop (zaJ l v))).length_le
 rw [List.length_drop] at h2
 omega
theorem zFe {bk:Plc→Int} {N:List Adr} {l:List Plc} (h:TOk bk N l) {v:Int} {i:Nat} (h1:zaJ l v≤i) (h2:i < toN l v) (hi:i < l.length):l[i].b=v:=by
 obtain ⟨A,B,C,rfl,hA,hB,hC⟩:=h.s.split3 v
 rw [zB6 hA hB hC] at h2
 rw [zxP hA hB hC] at h1
 rw [List.getElem_append_right h1,List.getElem_append_left (by omega)]
 exact hB _ (List.getElem_mem _)
theorem zHH {bk:Plc→Int} {N:List Adr} {l:List Plc} (h:TOk bk N l) {i:Nat} (hi:i < l.length):zbn l[i].b (zid l i)≤7:=by
 have key:∀ v,l[i].b=v→zbn v l=zbn v (zid l i)+1:=by
  intro v hv
  have e:l=l.take i++(l[i]::l.drop (i+1)):=by rw [← List.drop_eq_getElem_cons hi,List.take_append_drop]
  refine (congrArg (zbn v) e).trans ?_
  unfold zbn zid
  rw [List.filter_append,List.filter_append,List.filter_cons,if_pos (by simp [hv])]
  simp
  omega
 have hc:=h.c l[i].b
 have:=key _ rfl
 omega
def zcO (e:Plc):Int × Int × Int × Int:=(e.b,e.a.h,e.a.p,e.s)
theorem zvO {α β:Type} (f:α→α) (g:α→β) (h:∀ x,g (f x)=g x):∀ (l:List α) (i:Nat),(l.modify i f).map g=l.map g
 | [],i=>by cases i <;> rfl
 | x::l,0=>by simp [List.modify,h]
 | x::l,i+1=>by simpa using zvO f g h l i
theorem zva (l:List Plc) (i:Nat) (t:Int):(zxL l i t).map zcO=l.map zcO:=zvO (zKi t) zcO (fun _=>rfl) l i
theorem zE2 {x y x' y':Plc} (hx:zcO x=zcO x') (hy:zcO y=zcO y'):zP x.a y.a=zP x'.a y'.a:=by
 simp only [zcO,Prod.mk.injEq] at hx hy
 simp only [zP,hx.2.1,hx.2.2.1,hy.2.1,hy.2.2.1]
theorem zAK {l l':List Plc} (hk:l'.map zcO=l.map zcO) {x:Plc} (hx:x ∈ l'):∃ y ∈ l,zcO y=zcO x:=by
 have:=List.mem_map_of_mem (f:=zcO) hx
 rw [hk] at this
 obtain ⟨y,h1,h2⟩:=List.mem_map.1 this
 exact ⟨y,h1,h2⟩
theorem TOk.key {bk:Plc→Int} (hbk:∀ x y,zcO x=zcO y→bk x=bk y) {l l':List Plc} (h:TOk bk [] l) (hk:l'.map zcO=l.map zcO):TOk bk [] l':=by
 refine ⟨fun e he=>?_,?_,fun v=>?_,?_,by simp⟩
 ·obtain ⟨y,h1,h2⟩:=zAK hk he
  have:=h.b y h1
  rw [← hbk y e h2,← this]
  simp only [zcO,Prod.mk.injEq] at h2
  exact h2.1.symm
 ·have h1:(l.map zcO).Pairwise (fun x y=>x.1≤y.1):=List.pairwise_map.2 h.s
  rw [← hk] at h1
  have h2:l'.Pairwise (fun x y=>(zcO x).1≤(zcO y).1):=(List.pairwise_map (f:=zcO) (R:=fun x y=>x.1≤y.1)).1 h1
  exact h2
 ·have e:∀ m:List Plc,zbn v m=((m.map zcO).filter (fun x=>x.1 == v)).length:=by
   intro m
   unfold zbn
   rw [List.filter_map,List.length_map]
   rfl
  rw [e,hk,← e]; exact h.c v
 ·have h1:(l.map zcO).Pairwise (fun x y=>(x.2.1 == y.2.1 && x.2.2.1 == y.2.2.1)=false):=List.pairwise_map.2 h.n
  rw [← hk] at h1
  have h2:l'.Pairwise (fun x y=>((zcO x).2.1 == (zcO y).2.1 && (zcO x).2.2.1 == (zcO y).2.2.1)=false):=List.pairwise_map.1 h1
  exact h2
theorem zLr (s:List Int) (x y:Plc) (h:zcO x=zcO y):hbf s x=hbf s y:=by
 simp only [zcO,Prod.mk.injEq] at h
 simp only [hbf,hbk,grp,h.2.1,h.2.2.2]
theorem zLb (s:List Int) (x y:Plc) (h:zcO x=zcO y):tbf s x=tbf s y:=by
 simp only [zcO,Prod.mk.injEq] at h
 simp only [tbf,tbk,grp,h.2.1,h.2.2.1]
structure SndB (b:Bk):Prop where
 h:TOk (hbf b.salt) [] b.H
 t:TOk (tbf b.salt) [] b.T
 d:∀ x ∈ b.H,∀ y ∈ b.T,zP y.a x.a=false
theorem zIS (l:List Plc):∀ (n:Nat) (l:List Plc),(∀ e ∈ l,0≤e.b∧e.b < n)→(∀ v,zbn v l≤8)→l.length≤8 * n
 | 0,l,h,_=>by
  cases l with
  | nil=>simp
  | cons x l=>have:=h x (by simp); omega
 | n+1,l,h,hc=>by
  have ih:=zIS l n (l.filter (fun e=>!(e.b == (n:Int)))) (fun e he=>by
   have h1:=List.mem_filter.1 he
   have h2:=h e h1.1
   have h3:¬ e.b=n:=by simpa using h1.2
   omega) (fun v=>Nat.le_trans (zxg List.filter_sublist v) (hc v))
  have h1:=hc n
  have h2:l.length=(l.filter (fun e=>e.b == (n:Int))).length+(l.filter (fun e=>!(e.b == (n:Int)))).length:=by
   clear ih hc h h1
   induction l with
   | nil=>rfl
   | cons x l ih=>by_cases hx:x.b=n <;> simp [hx] <;> omega
  unfold zbn at h1
  omega
theorem TOk.len {bk:Plc→Int} {N:List Adr} {l:List Plc} (h:TOk bk N l) (hb:∀ e,0≤bk e∧bk e < 64):l.length≤512 :=
 zIS l 64 l (fun e he=>by have:=hb e; rw [h.b e he]; exact this) h.c
theorem SndB.lenH {b:Bk} (h:SndB b):b.H.length≤512:=h.h.len (zFl _)
theorem SndB.lenT {b:Bk} (h:SndB b):b.T.length≤512:=h.t.len (zFk _)
theorem zBv (b:Bk):znx b=true↔SndB b:=by
 unfold znx
 rw [zt3,zt3]
 simp only [Bool.and_eq_true,decide_eq_true_eq,zEj _ _ _ _ (TOk.nil _ _),List.nil_append,List.all_eq_true,Bool.not_eq_true',List.any_eq_false,Bool.not_eq_true]
 constructor
 ·rintro ⟨⟨_,h1⟩,⟨_,h2⟩,h3⟩
  exact ⟨h1,h2,h3⟩
 ·intro h
  exact ⟨⟨h.lenH,h.h⟩,⟨h.lenT,h.t⟩,h.d⟩
theorem zFh {l:List Plc} {a:Adr} (h:¬ zf7 (fun x=>zP x.a a) l 0 ≥ 0):∀ x ∈ l,zP x.a a=false:=by
 rcases zsB (fun x:Plc=>zP x.a a) l 0 with ⟨h1,h2⟩ | ⟨j,hj,h1,h2,h3⟩
 ·exact h2
 ·omega
theorem zpV (l:List Plc) (a z:Nat):∀ (n i m:Nat),a≤i→i+n≤z→a≤m→m < z→a≤zow l n i m∧zow l n i m < z
 | 0,i,m,_,_,h1,h2=>⟨h1,h2⟩
 | n+1,i,m,h0,h,h1,h2=>by
  rw [zow]
  split
  ·exact zpV l a z n (i+1) i (by omega) (by omega) (by omega) (by omega)
  ·exact zpV l a z n (i+1) m (by omega) (by omega) h1 h2
theorem zFa {b:Bk} (h:SndB b) (a:Adr) (src:Int):SndB (znk b a src).1:=by
 unfold znk
 split
 ·refine ⟨h.h,h.t.key (zLb _) (zva _ _ _),fun x hx y hy=>?_⟩
  obtain ⟨z,h1,h2⟩:=zAK (zva _ _ _) hy
  rw [← zE2 h2 (rfl:zcO x=zcO x)]
  exact h.d x hx z h1
 ·rename_i hT
  split
  ·refine ⟨h.h.key (zLr _) (zva _ _ _),h.t,fun x hx y hy=>?_⟩
   obtain ⟨z,h1,h2⟩:=zAK (zva _ _ _) hx
   rw [← zE2 (rfl:zcO y=zcO y) h2]
   exact h.d z h1 y hy
  ·rename_i hH
   have nT:=zFh hT
   have nH:=zFh hH
   have dd:∀ (l':List Plc),l'.Sublist b.H→∀ x ∈ znM l' ⟨hbk b.salt a src,a,src⟩,∀ y ∈ b.T,zP y.a x.a=false:=by
    intro l' hl' x hx y hy
    rcases zxF hx with rfl | hx
    ·exact nT y hy
    ·exact h.d x (hl'.subset hx) y hy
   split
   ·rename_i h8
    split
    ·exact h
    ·have hr:=zAI b.H (hbk b.salt a src)
     have hm:=zpV b.H (zaJ b.H (hbk b.salt a src)) (toN b.H (hbk b.salt a src)) (toN b.H (hbk b.salt a src) - zaJ b.H (hbk b.salt a src)) (zaJ b.H (hbk b.salt a src)) (zaJ b.H (hbk b.salt a src)) (Nat.le_refl _) (by omega) (Nat.le_refl _) (by omega)
     generalize zow b.H (toN b.H (hbk b.salt a src) - zaJ b.H (hbk b.salt a src)) (zaJ b.H (hbk b.salt a src)) (zaJ b.H (hbk b.salt a src))=m at hm ⊢
     have hml:m < b.H.length:=by omega
     have hc:=zHH h.h hml
     rw [zFe h.h hm.1 hm.2 hml] at hc
     exact ⟨(h.h.sub (zgF _ _)).ins rfl hc (fun x hx=>nH x ((zgF _ _).subset hx)) (by simp),h.t,dd _ (zgF _ _)⟩
   ·rename_i h8
    rw [zGC h.h] at h8
    exact ⟨h.h.ins rfl (by show zbn (hbk b.salt a src) b.H≤7; omega) nH (by simp),h.t,dd _ (List.Sublist.refl _)⟩
theorem zJA {l:List Plc} (h:l.Pairwise (fun x y=>zP x.a y.a=false)) {i:Nat} (hi:i < l.length):∀ x ∈ zid l i,zP x.a l[i].a=false:=by
 intro x hx
 have hp:=List.pairwise_iff_getElem.1 h
 unfold zid at hx
 rcases List.mem_append.1 hx with hx | hx
 ·obtain ⟨j,hj,rfl⟩:=List.mem_take_iff_getElem.1 hx
  exact hp j i (by omega) hi (by omega)
 ·obtain ⟨j,hj,rfl⟩:=List.mem_drop_iff_getElem.1 hx
  rw [zkz]
  exact hp i (i+1+j) hi (by omega) (by omega)
theorem zMr (v:Int) (a:Adr) (s:Int):(⟨v,a,s⟩:Plc).b=v:=rfl
theorem zMd (v:Int) (a:Adr) (s:Int):(⟨v,a,s⟩:Plc).a=a:=rfl
theorem zCg (b:Bk) (e:Plc):(zhx b e).b=tbk b.salt e.a:=by unfold zhx; exact zMr _ _ _
theorem zuX (b:Bk) (e:Plc):(zhx b e).a=e.a:=by unfold zhx; exact zMd _ _ _
theorem zLe (s:List Int) (e:Plc):tbf s e=tbk s e.a:=by unfold tbf; rfl
theorem zI9 {b:Bk} (h:SndB b) {i:Nat} (hi:i < b.H.length):SndB (zx5 b i b.H[i]):=by
 have hH:=h.h.sub (zgF b.H i)
 have hn:=zJA h.h.n hi
 have hd:∀ y ∈ b.T,zP y.a b.H[i].a=false:=fun y hy=>h.d _ (List.getElem_mem hi) y hy
 have dd:∀ (l':List Plc),l'.Sublist b.T→∀ x ∈ zid b.H i,∀ y ∈ znM l' (zhx b b.H[i]),zP y.a x.a=false:=by
  intro l' hl' x hx y hy
  rcases zxF hy with rfl | hy
  ·rw [zkz,zuX]; exact hn x hx
  ·exact h.d x ((zgF _ _).subset hx) y (hl'.subset hy)
 have hp:(zhx b b.H[i]).b=tbk b.salt b.H[i].a:=zCg _ _
 have hq:(zhx b b.H[i]).b=tbf b.salt (zhx b b.H[i]):=by rw [hp,zLe,zuX]
 unfold zx5
 split
 ·rename_i h8
  have hr:=zAI b.T (tbk b.salt b.H[i].a)
  have hl:zaJ b.T (tbk b.salt b.H[i].a) < b.T.length:=by omega
  rw [List.getElem?_eq_getElem hl]
  simp only
  refine zFa ⟨hH,?_,dd _ (zgF _ _)⟩ _ _
  have hc:=zHH h.t hl
  rw [zFe h.t (Nat.le_refl _) (by omega) hl] at hc
  rw [← hp] at hc
  exact (h.t.sub (zgF _ _)).ins hq hc (fun x hx=>by rw [zuX]; exact hd x ((zgF _ _).subset hx)) (by simp)
 ·rename_i h8
  rw [zGC h.t,← hp] at h8
  exact ⟨hH,h.t.ins hq (by omega) (fun x hx=>by rw [zuX]; exact hd x hx) (by simp),dd _ (List.Sublist.refl _)⟩
def NnB (b:Bk):Prop:=(∀ e ∈ b.H,0≤e.a.h)∧∀ e ∈ b.T,0≤e.a.h
theorem zHF {l:List Plc} (h:∀ e ∈ l,0≤e.a.h) (i:Nat) (t:Int):∀ e ∈ zxL l i t,0≤e.a.h:=by
 intro e he
 obtain ⟨y,h1,h2⟩:=zAK (zva _ _ _) he
 simp only [zcO,Prod.mk.injEq] at h2
 rw [← h2.2.1]; exact h y h1
theorem zD9 {l:List Plc} (h:∀ e ∈ l,0≤e.a.h) {p:Plc} (hp:0≤p.a.h):∀ e ∈ znM l p,0≤e.a.h:=by
 intro e he
 rcases zxF he with rfl | he
 ·exact hp
 ·exact h e he
theorem zC0 {l:List Plc} (h:∀ e ∈ l,0≤e.a.h) (i:Nat):∀ e ∈ zid l i,0≤e.a.h:=fun e he=>h e ((zgF _ _).subset he)
theorem zGx {b:Bk} (h:NnB b) {a:Adr} (ha:0≤a.h) (src:Int):NnB (znk b a src).1:=by
 unfold znk
 split
 ·exact ⟨h.1,zHF h.2 _ _⟩
 ·split
  ·exact ⟨zHF h.1 _ _,h.2⟩
  ·split
   ·split
    ·exact h
    ·exact ⟨zD9 (zC0 h.1 _) ha,h.2⟩
   ·exact ⟨zD9 h.1 ha,h.2⟩
theorem zJX {b:Bk} (h:NnB b) {i:Nat} (hi:i < b.H.length):NnB (zx5 b i b.H[i]):=by
 have hp:0≤(zhx b b.H[i]).a.h:=by rw [zuX]; exact h.1 _ (List.getElem_mem hi)
 unfold zx5
 split
 ·split
  ·rename_i o ho
   exact zGx ⟨zC0 h.1 _,zD9 (zC0 h.2 _) hp⟩ (h.2 o (List.mem_of_getElem? ho)) _
  ·exact h
 ·exact ⟨zC0 h.1 _,zD9 h.2 hp⟩
end
section
set_option linter.unusedVariables false
set_option linter.unusedSimpArgs false
set_option maxRecDepth 100000
variable {β:Type}
def zcu (l:List Plc):List V:=(xT l).flatten
theorem zJj (l:List Plc):∀ e ∈ xT l,e.length=5:=by
 intro e he
 obtain ⟨x,_,rfl⟩:=List.mem_map.1 he
 rfl
theorem zmB (l:List Plc):(zcu l).length=l.length * 5:=by
 unfold zcu; rw [zbt (zJj l),y9]
theorem zE4 (l m:List Plc):zcu (l++m)=zcu l++zcu m:=by simp [zcu,xT]
theorem zBK {l:List Plc} {i:Nat} (hi:i < l.length):zcu l=zcu (l.take i)++(l[i].v++zcu (l.drop (i+1))):=by
 have e:l=l.take i++(l[i]::l.drop (i+1)):=by rw [← List.drop_eq_getElem_cons hi,List.take_append_drop]
 refine (congrArg zcu e).trans ?_
 rw [zE4]
 rfl
theorem zxK {l:List Plc} {i j:Nat} (hi:i < l.length) (hj:j≤5):(zcu l).drop (i * 5+j)=l[i].v.drop j++zcu (l.drop (i+1)):=by
 rw [zBK hi]
 have e:(zcu (l.take i)).length=i * 5:=by rw [zmB,List.length_take]; congr 1; omega
 rw [List.drop_append,e,List.drop_of_length_le (by omega),List.nil_append,show i * 5+j - i * 5=j by omega,List.drop_append_of_le_length (by show j≤5; exact hj)]
theorem zJb {l:List Plc} {i j:Nat} (hi:i < l.length) (hj:j < 5):(zcu l)[i * 5+j]?=l[i].v[j]?:=by
 have:=zxK hi (Nat.le_of_lt hj)
 rw [← List.head?_drop,this,← List.head?_drop]
 rw [List.head?_append]
 cases h:(l[i].v.drop j).head? with
 | some x=>rfl
 | none =>
  rw [List.head?_drop,List.getElem?_eq_none_iff] at h
  have:l[i].v.length=5:=rfl
  omega
theorem zHd {l:List Plc} {i:Nat} (hi:i < l.length):List.take 3 (List.drop (i * 5+1) (zcu l))=l[i].a.v:=by
 rw [zxK hi (by omega)]; rfl
theorem zKF {l:List Plc} {i:Nat} (hi:i < l.length):List.take 5 (List.drop (i * 5) (zcu l))=l[i].v:=by
 rw [show i * 5=i * 5+0 from rfl,zxK hi (by omega)]; rfl
theorem zIU (A B x:List V) (j:Nat):yk (A++B) (A.length+j) x=A++yk B j x:=by
 unfold yk
 rw [List.take_length_add_append,Nat.add_assoc,List.drop_length_add_append]
 simp
theorem zFb {l:List Plc} {i:Nat} (hi:i < l.length) (t:Int):yk (zcu l) (i * 5+3) [V.sc (.int .u32 (zII l[i].a.t t))]=zcu (zxL l i t):=by
 have e:(zcu (l.take i)).length=i * 5:=by rw [zmB,List.length_take]; congr 1; omega
 have eb:zxL l i t=l.take i++(zKi t l[i]::l.drop (i+1)):=by
  unfold zxL
  rw [List.modify_eq_take_cons_drop hi]
 rw [eb,zE4,zBK hi,← e,zIU]
 rfl
theorem zgg (l:List Plc):zp 5 l.length (zcu l)=xT l:=by
 have:=zGk (zJj l) (w:=l.length) (by rw [y9]; exact Nat.le_refl _)
 unfold zcu
 rw [this,List.take_of_length_le (by rw [y9]; exact Nat.le_refl _)]
theorem zGO (l:List Plc) (i:Nat) (t:Int):(zxL l i t).length=l.length:=by unfold zxL; simp
theorem zG4 {n:Nat} {l:List Plc} (h:n=l.length):zp 5 n (zcu l)=xT l:=by subst h; exact zgg l
theorem zwB (l:List Plc):(zcu l).isEmpty=l.isEmpty:=by
 cases l <;> rfl
theorem zKp (L:Nat) (l:List Plc) (hl:l.length≤1000000) (v:Int) (kx:List (List V)→Int→Int→Option β):∀ (m i:Nat),i≤l.length→l.length - i < m →
  zgc L kx m (xT l) v (i:Int)=kx (xT l) v ((i+((l.drop i).takeWhile (fun x=>decide (x.b < v))).length:Nat):Int):=by
 intro m
 induction m with
 | zero=>intro i h1 h2; omega
 | succ m IH =>
  intro i h1 h2
  unfold zgc zmZ
  rw [y9]
  by_cases h:i < l.length
  ·rw [y6 (by omega),y4 (zcs h),xM (n:=l[i].b) rfl,zap,List.drop_eq_getElem_cons h,List.takeWhile_cons]
   by_cases hb:l[i].b < v
   ·rw [if_pos hb,if_pos (decide_eq_true hb),yC,xQ (by omega),List.length_cons]
    refine (IH (i+1) (by omega) (by omega)).trans ?_
    congr 2; omega
   ·rw [if_neg hb,if_neg (by simpa using hb)]; rfl
  ·rw [zao (by omega),List.drop_of_length_le (by omega)]; rfl
theorem zLL (L:Nat) (l:List Plc) (hl:l.length≤1000000) (v f:Int) (kx:Int→Int→Option β):∀ (m i:Nat),i≤l.length→l.length - i < m →
  ze4 L kx m (xT l) v f (i:Int)=kx f ((i+((l.drop i).takeWhile (fun x=>x.b == v)).length:Nat):Int):=by
 intro m
 induction m with
 | zero=>intro i h1 h2; omega
 | succ m IH =>
  intro i h1 h2
  unfold ze4 zks
  rw [y9]
  by_cases h:i < l.length
  ·rw [y6 (by omega),y4 (zcs h),xM (n:=l[i].b) rfl,zd7,List.drop_eq_getElem_cons h,List.takeWhile_cons]
   by_cases hb:l[i].b=v
   ·rw [if_pos hb,if_pos (beq_iff_eq.2 hb),yC,xQ (by omega),List.length_cons]
    refine (IH (i+1) (by omega) (by omega)).trans ?_
    congr 2; omega
   ·rw [if_neg hb,if_neg (by simpa using hb)]; rfl
  ·rw [zao (by omega),List.drop_of_length_le (by omega)]; rfl
theorem zsv (L:Nat) (l:List Plc) (hl:l.length≤1000000) (hL:l.length < L) (v:Int) (k:Int→Int→Option β):zh β L (xT l) v k=k ((zaJ l v:Nat):Int) ((toN l v:Nat):Int):=by
 have hf:=zAI l v
 unfold zh znd zr1
 rw [show ((0:Int))=((0:Nat):Int) from rfl]
 refine (zKp L l hl v _ L 0 (by omega) (by omega)).trans ?_
 rw [List.drop_zero,Nat.zero_add]
 refine (zLL L l hl v _ _ L (zaJ l v) (by omega) (by omega)).trans ?_
 rfl
theorem zCc {n m:Nat} (h:n≤1000000) (hm:m≤1000000):(n+m) * 24≤yu∧n+m≤yu:=by
 simp only [yu]; omega
theorem zvU (l:List Plc) (i:Nat):(xT l).take i=xT (l.take i):=by simp [xT,List.map_take]
theorem zEZ (l:List Plc) (i:Nat):(xT l).drop i=xT (l.drop i):=by simp [xT,List.map_drop]
theorem zLk (p:Plc):zp 5 1 (yk [(V.sc (.int .i64 (0:Int))),(V.sc (.int .u32 (0:Int))),(V.sc (.int .u16 (0:Int))),(V.sc (.int .u32 (0:Int))),(V.sc (.int .u32 (0:Int)))] 0 p.v)=xT [p]:=by
 rw [zeE (by rfl)]; rfl
theorem zE8 (l:List Plc) (i:Nat):List.take (l.length - i) (List.drop i l)=List.drop i l:=List.take_of_length_le (by simp)
theorem zpI (L:Nat) (l:List Plc) (hl:l.length≤900000) (hL:l.length < L) (p:Plc) (k:List (List V)→Option β):xg β L (xT l) p.v k=k (xT (znM l p)):=by
 have hf:=zAI l p.b
 have e1:List.take 5 p.v=p.v:=rfl
 unfold xg zrz
 rw [xM (n:=p.b) rfl,zsv L l (by omega) hL,y9,zf (by omega),Nat.sub_zero,Int.toNat_natCast,List.drop_zero,zvU,y9,zf (zCc (by simp) (by simp; omega)),yC,List.nil_append,zf (by show 0+5≤5; omega),e1,zf ⟨rfl,by omega⟩,zLk,y9,y9,zf (zCc (by simp; omega) (by simp)),yC,zxH,zf (by omega),zEZ,zvU,y9,y9,zf (zCc (by simp; omega) (by simp; omega)),yC,zxH,zE8]
 rfl
theorem zz9 (L:Nat) (l:List Plc) (hl:l.length≤900000) (i:Nat) (hi:i < l.length) (k:List (List V)→Option β):xh β L (xT l) (i:Int) k=k (xT (zid l i)):=by
 unfold xh zrN
 rw [y9,zf (by omega),Nat.sub_zero,Int.toNat_natCast,List.drop_zero,zvU,y9,zf (zCc (by simp) (by simp; omega)),yC,List.nil_append,yC,xQ (by omega),zf (by omega),Int.toNat_natCast,zEZ,zvU,y9,y9,zf (zCc (by simp; omega) (by simp; omega)),yC,zxH,zE8]
 rfl
theorem zH0 (L:Nat) (ps:List Plc) (hp:ps.length≤1000000) (a:Adr) (kr:Int→List V→Option β) (kx:List V→Option β) (k:Int→List V→Option β) (hr:∀ i b,kr i b=k i b) (hx:∀ b,kx b=k (-1) b):∀ (m i:Nat),i≤ps.length→ps.length - i < m →
  zf8 zk L kr kx m ps.length (i:Int) (zcu ps) a.v=k (zf7 (fun e=>zP e.a a) (ps.drop i) i) (zcu ps):=by
 intro m
 induction m with
 | zero=>intro i h1 h2; omega
 | succ m IH =>
  intro i h1 h2
  unfold zf8 zmr
  by_cases h:i < ps.length
  ·have e1:0+Int.toNat (i:Int) * 5+1=i * 5+1:=by rw [Int.toNat_natCast]; omega
   rw [y6 (by omega),zf (by omega),e1,zf (by rw [zmB]; omega),zf (by show 0+3≤3; omega),zHd h,zm7,zHv,List.drop_eq_getElem_cons h,zf7,yC,xQ (by omega)]
   have ih:=IH (i+1) (by omega) (by omega)
   cases zP ps[i].a a with
   | true=>exact hr _ _
   | false=>exact ih
  ·rw [zao (by omega),List.drop_of_length_le (by omega),hx]; rfl
theorem zGg (L:Nat) (ps:List Plc) (hp:ps.length≤1000000) (hL:ps.length < L) (a:Adr) (k:Int→List V→Option β):xl β L ps.length a.v (zcu ps) k=k (zf7 (fun e=>zP e.a a) ps 0) (zcu ps):=by
 unfold xl znu zrU
 rw [show ((0:Int))=((0:Nat):Int) from rfl]
 refine (zH0 L ps hp a _ _ k (fun _ _=>rfl) (fun _=>rfl) L 0 (by omega) (by omega)).trans ?_
 rfl
theorem zam (b:Bk) (j:Nat) (h:j < 32) (k:Int→Option β):cI .u8 b.v j k=k (b.salt.getD j 0):=by
 refine xM ?_ k
 have hs:=b.hs
 rw [Bk.v,List.getElem?_append_left (by rw [zdl]; omega),row,List.getElem?_map,List.getD_eq_getElem?_getD,List.getElem?_eq_getElem (by omega)]
 rfl
theorem zJ9:∀ (s:List Int),s.length=32→row .u8 s=[V.sc (.int .u8 (s.getD 0 0)),V.sc (.int .u8 (s.getD 1 0)),V.sc (.int .u8 (s.getD 2 0)),V.sc (.int .u8 (s.getD 3 0)),V.sc (.int .u8 (s.getD 4 0)),V.sc (.int .u8 (s.getD 5 0)),V.sc (.int .u8 (s.getD 6 0)),V.sc (.int .u8 (s.getD 7 0)),V.sc (.int .u8 (s.getD 8 0)),V.sc (.int .u8 (s.getD 9 0)),V.sc (.int .u8 (s.getD 10 0)),V.sc (.int .u8 (s.getD 11 0)),V.sc (.int .u8 (s.getD 12 0)),V.sc (.int .u8 (s.getD 13 0)),V.sc (.int .u8 (s.getD 14 0)),V.sc (.int .u8 (s.getD 15 0)),V.sc (.int .u8 (s.getD 16 0)),V.sc (.int .u8 (s.getD 17 0)),V.sc (.int .u8 (s.getD 18 0)),V.sc (.int .u8 (s.getD 19 0)),V.sc (.int .u8 (s.getD 20 0)),V.sc (.int .u8 (s.getD 21 0)),V.sc (.int .u8 (s.getD 22 0)),V.sc (.int .u8 (s.getD 23 0)),V.sc (.int .u8 (s.getD 24 0)),V.sc (.int .u8 (s.getD 25 0)),V.sc (.int .u8 (s.getD 26 0)),V.sc (.int .u8 (s.getD 27 0)),V.sc (.int .u8 (s.getD 28 0)),V.sc (.int .u8 (s.getD 29 0)),V.sc (.int .u8 (s.getD 30 0)),V.sc (.int .u8 (s.getD 31 0))]
 | [x0,x1,x2,x3,x4,x5,x6,x7,x8,x9,x10,x11,x12,x13,x14,x15,x16,x17,x18,x19,x20,x21,x22,x23,x24,x25,x26,x27,x28,x29,x30,x31],_=>rfl
theorem Bk.cells (b:Bk):[V.sc (.int .u8 (b.salt.getD 0 0)),V.sc (.int .u8 (b.salt.getD 1 0)),V.sc (.int .u8 (b.salt.getD 2 0)),V.sc (.int .u8 (b.salt.getD 3 0)),V.sc (.int .u8 (b.salt.getD 4 0)),V.sc (.int .u8 (b.salt.getD 5 0)),V.sc (.int .u8 (b.salt.getD 6 0)),V.sc (.int .u8 (b.salt.getD 7 0)),V.sc (.int .u8 (b.salt.getD 8 0)),V.sc (.int .u8 (b.salt.getD 9 0)),V.sc (.int .u8 (b.salt.getD 10 0)),V.sc (.int .u8 (b.salt.getD 11 0)),V.sc (.int .u8 (b.salt.getD 12 0)),V.sc (.int .u8 (b.salt.getD 13 0)),V.sc (.int .u8 (b.salt.getD 14 0)),V.sc (.int .u8 (b.salt.getD 15 0)),V.sc (.int .u8 (b.salt.getD 16 0)),V.sc (.int .u8 (b.salt.getD 17 0)),V.sc (.int .u8 (b.salt.getD 18 0)),V.sc (.int .u8 (b.salt.getD 19 0)),V.sc (.int .u8 (b.salt.getD 20 0)),V.sc (.int .u8 (b.salt.getD 21 0)),V.sc (.int .u8 (b.salt.getD 22 0)),V.sc (.int .u8 (b.salt.getD 23 0)),V.sc (.int .u8 (b.salt.getD 24 0)),V.sc (.int .u8 (b.salt.getD 25 0)),V.sc (.int .u8 (b.salt.getD 26 0)),V.sc (.int .u8 (b.salt.getD 27 0)),V.sc (.int .u8 (b.salt.getD 28 0)),V.sc (.int .u8 (b.salt.getD 29 0)),V.sc (.int .u8 (b.salt.getD 30 0)),V.sc (.int .u8 (b.salt.getD 31 0))]=row .u8 b.salt:=(zJ9 b.salt b.hs).symm
theorem Bk.mk_v (b:Bk) (x y:List (List V)):[V.sc (.int .u8 (b.salt.getD 0 0)),V.sc (.int .u8 (b.salt.getD 1 0)),V.sc (.int .u8 (b.salt.getD 2 0)),V.sc (.int .u8 (b.salt.getD 3 0)),V.sc (.int .u8 (b.salt.getD 4 0)),V.sc (.int .u8 (b.salt.getD 5 0)),V.sc (.int .u8 (b.salt.getD 6 0)),V.sc (.int .u8 (b.salt.getD 7 0)),V.sc (.int .u8 (b.salt.getD 8 0)),V.sc (.int .u8 (b.salt.getD 9 0)),V.sc (.int .u8 (b.salt.getD 10 0)),V.sc (.int .u8 (b.salt.getD 11 0)),V.sc (.int .u8 (b.salt.getD 12 0)),V.sc (.int .u8 (b.salt.getD 13 0)),V.sc (.int .u8 (b.salt.getD 14 0)),V.sc (.int .u8 (b.salt.getD 15 0)),V.sc (.int .u8 (b.salt.getD 16 0)),V.sc (.int .u8 (b.salt.getD 17 0)),V.sc (.int .u8 (b.salt.getD 18 0)),V.sc (.int .u8 (b.salt.getD 19 0)),V.sc (.int .u8 (b.salt.getD 20 0)),V.sc (.int .u8 (b.salt.getD 21 0)),V.sc (.int .u8 (b.salt.getD 22 0)),V.sc (.int .u8 (b.salt.getD 23 0)),V.sc (.int .u8 (b.salt.getD 24 0)),V.sc (.int .u8 (b.salt.getD 25 0)),V.sc (.int .u8 (b.salt.getD 26 0)),V.sc (.int .u8 (b.salt.getD 27 0)),V.sc (.int .u8 (b.salt.getD 28 0)),V.sc (.int .u8 (b.salt.getD 29 0)),V.sc (.int .u8 (b.salt.getD 30 0)),V.sc (.int .u8 (b.salt.getD 31 0)),(V.sl 5 x),(V.sl 5 y)]=row .u8 b.salt++[.sl 5 x,.sl 5 y]:=by
 rw [← b.cells]; rfl
theorem zEY (L:Nat) (b:Bk) (hH:b.H.length≤1000000) (hT:b.T.length≤1000000) (k:znW β):xj β L b.v k=k (b.salt.getD 0 0) (b.salt.getD 1 0) (b.salt.getD 2 0) (b.salt.getD 3 0) (b.salt.getD 4 0) (b.salt.getD 5 0) (b.salt.getD 6 0) (b.salt.getD 7 0) (b.salt.getD 8 0) (b.salt.getD 9 0) (b.salt.getD 10 0) (b.salt.getD 11 0) (b.salt.getD 12 0) (b.salt.getD 13 0) (b.salt.getD 14 0) (b.salt.getD 15 0) (b.salt.getD 16 0) (b.salt.getD 17 0) (b.salt.getD 18 0) (b.salt.getD 19 0) (b.salt.getD 20 0) (b.salt.getD 21 0) (b.salt.getD 22 0) (b.salt.getD 23 0) (b.salt.getD 24 0) (b.salt.getD 25 0) (b.salt.getD 26 0) (b.salt.getD 27 0) (b.salt.getD 28 0) (b.salt.getD 29 0) (b.salt.getD 30 0) (b.salt.getD 31 0) b.H.length b.T.length (zcu b.H) (zcu b.T):=by
 unfold xj zr3
 rw [zf b.len,zam b 0 (by omega),zam b 1 (by omega),zam b 2 (by omega),zam b 3 (by omega),zam b 4 (by omega),zam b 5 (by omega),zam b 6 (by omega),zam b 7 (by omega),zam b 8 (by omega),zam b 9 (by omega),zam b 10 (by omega),zam b 11 (by omega),zam b 12 (by omega),zam b 13 (by omega),zam b 14 (by omega),zam b 15 (by omega),zam b 16 (by omega),zam b 17 (by omega),zam b 18 (by omega),zam b 19 (by omega),zam b 20 (by omega),zam b 21 (by omega),zam b 22 (by omega),zam b 23 (by omega),zam b 24 (by omega),zam b 25 (by omega),zam b 26 (by omega),zam b 27 (by omega),zam b 28 (by omega),zam b 29 (by omega),zam b 30 (by omega),zam b 31 (by omega)]
 have g1:∀ k:List (List V)→Option β,cL 5 b.v 32 k=k (xT b.H):=zwX b.g32
 have g2:∀ k:List (List V)→Option β,cL 5 b.v 33 k=k (xT b.T):=zwX b.g33
 rw [g1,g2,y9,y9,zf (zCc (by simp) hH),zf (zCc (by simp) hT)]
 rfl
end
end Go.Proofs.Ytpafdnidhnldhaa
