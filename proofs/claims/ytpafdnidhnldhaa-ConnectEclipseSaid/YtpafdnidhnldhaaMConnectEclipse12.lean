/- Part 12 of the proof of ConnectEclipse: an abstract machine over plain values, its soundness, and the functions of the program on plain values. -/
import Derived.Test.YtpafdnidhnldhaaMConnectEclipse11
namespace Go.Proofs.Ytpafdnidhnldhaa
section
set_option linter.unusedVariables false
set_option linter.unusedSimpArgs false
set_option maxRecDepth 100000
variable {β:Type}
theorem zpE {inst:Decidable ((4:Nat)≠0)} (k:Option β):@chk β ((4:Nat)≠0) inst k=k:=if_pos (by omega)
structure S4 where
 a:Int
 b:Int
 c:Int
 d:Int
def S4.row (s:S4):List V:=[.sc (.int .u64 s.a),.sc (.int .u64 s.b),.sc (.int .u64 s.c),.sc (.int .u64 s.d)]
def zr3 (x n:Int):Int:=ior .u64 (zre .u64 x (zIm .u64 (IntKind.wrap .u64 n) 63)) (znO .u64 x (IntKind.wrap .u64 (64 - zIm .u64 (IntKind.wrap .u64 n) 63)))
theorem zIP (L:Nat) (x:Int) (k:Int→Option β):yc β L x 13 k=k (zr3 x 13):=by kernel_rfl
theorem zIN (L:Nat) (x:Int) (k:Int→Option β):yc β L x 32 k=k (zr3 x 32):=by kernel_rfl
theorem zIU (L:Nat) (x:Int) (k:Int→Option β):yc β L x 16 k=k (zr3 x 16):=by kernel_rfl
theorem zIO (L:Nat) (x:Int) (k:Int→Option β):yc β L x 21 k=k (zr3 x 21):=by kernel_rfl
theorem zIX (L:Nat) (x:Int) (k:Int→Option β):yc β L x 17 k=k (zr3 x 17):=by kernel_rfl
def r1 (s:S4):S4:=⟨IntKind.wrap .u64 (s.a+s.b),s.b,s.c,s.d⟩
def r2 (s:S4):S4:=⟨s.a,za4 .u64 (zr3 s.b 13) s.a,s.c,s.d⟩
def r3 (s:S4):S4:=⟨zr3 s.a 32,s.b,s.c,s.d⟩
def r4 (s:S4):S4:=⟨s.a,s.b,IntKind.wrap .u64 (s.c+s.d),s.d⟩
def r5 (s:S4):S4:=⟨s.a,s.b,s.c,za4 .u64 (zr3 s.d 16) s.c⟩
def r6 (s:S4):S4:=⟨IntKind.wrap .u64 (s.a+s.d),s.b,s.c,s.d⟩
def r7 (s:S4):S4:=⟨s.a,s.b,s.c,za4 .u64 (zr3 s.d 21) s.a⟩
def r8 (s:S4):S4:=⟨s.a,s.b,IntKind.wrap .u64 (s.c+s.b),s.d⟩
def r9 (s:S4):S4:=⟨s.a,za4 .u64 (zr3 s.b 17) s.c,s.c,s.d⟩
def r10 (s:S4):S4:=⟨s.a,s.b,zr3 s.c 32,s.d⟩
def rnd (s:S4):S4:=r10 (r9 (r8 (r7 (r6 (r5 (r4 (r3 (r2 (r1 s)))))))))
theorem c0 (s:S4) (k:Int→Option β):cI .u64 s.row 0 k=k s.a:=by cases s; rfl
theorem c1 (s:S4) (k:Int→Option β):cI .u64 s.row 1 k=k s.b:=by cases s; rfl
theorem c2 (s:S4) (k:Int→Option β):cI .u64 s.row 2 k=k s.c:=by cases s; rfl
theorem c3 (s:S4) (k:Int→Option β):cI .u64 s.row 3 k=k s.d:=by cases s; rfl
theorem zFL (s:S4) (x:Int):xg s.row 0 [.sc (.int .u64 x)]=S4.row ⟨x,s.b,s.c,s.d⟩:=by cases s; rfl
theorem zKh (s:S4) (x:Int):xg s.row 1 [.sc (.int .u64 x)]=S4.row ⟨s.a,x,s.c,s.d⟩:=by cases s; rfl
theorem zGt (s:S4) (x:Int):xg s.row 2 [.sc (.int .u64 x)]=S4.row ⟨s.a,s.b,x,s.d⟩:=by cases s; rfl
theorem zF4 (s:S4) (x:Int):xg s.row 3 [.sc (.int .u64 x)]=S4.row ⟨s.a,s.b,s.c,x⟩:=by cases s; rfl
theorem zrV (s t:S4):xg s.row 0 t.row=t.row:=by cases s; cases t; rfl
theorem zFz (z0 z1 z2 z3:Int) (t:S4):xg [V.sc (.int .u64 z0),V.sc (.int .u64 z1),V.sc (.int .u64 z2),V.sc (.int .u64 z3)] 0 t.row=t.row:=by cases t; rfl
theorem zma (s:S4):s.row.length=4:=by cases s; rfl
theorem znA (s:S4):s.row.take 4=s.row:=by cases s; rfl
theorem zB4 (L:Nat) (s:S4) (k:List V→Option β):zm β L s.row k=k (rnd s).row:=by
 simp only [zm,zp2,zA,c0,c1,c2,c3,zFL,zKh,zGt,zF4,zIP,zIN,zIU,zIO,zIX,zma,znA,zFz]
 repeat rw [xc (by decide)]
 rfl
theorem zHs (L:Nat) (p5 p6:Int) (s:S4) (z0 z1 z2 z3:Int) (kh:Int→Int→List V→Int→Int→Int→Int→Option β) (kx:List V→Int→Int→Int→Int→Option β) (h:p6 < p5):zfD yc L p5 p6 s.row z0 z1 z2 z3 kh kx=kh p5 (IntKind.wrap .i64 (p6+1)) (rnd s).row z0 z1 z2 z3:=by
 simp only [zfD,zA,c0,c1,c2,c3,zFL,zKh,zGt,zF4,zIP,zIN,zIU,zIO,zIX,zma,zpE,zlO,true_and,and_true,and_self,Nat.reduceAdd,Nat.reduceMul,Nat.reduceLeDiff,Nat.le_refl,Nat.zero_add]
 rw [zaI h]
 simp only [rnd,r1,r2,r3,r4,r5,r6,r7,r8,r9,r10]
def zBu:Nat→S4→S4
 | 0,s=>s
 | n+1,s=>zBu n (rnd s)
theorem zsP (L:Nat) (kx:List V→Int→Int→Int→Int→Option β) (z0 z1 z2 z3:Int) (m:Nat) (hm:m≤1000):∀ (n i:Nat) (s:S4),i≤m→m - i < n→zfw yc L kx n (m:Int) (i:Int) s.row z0 z1 z2 z3=kx (zBu (m - i) s).row z0 z1 z2 z3
 | 0,i,s,hi,hn=>by omega
 | n+1,i,s,hi,hn=>by
  simp only [zfw]
  by_cases h:i < m
  ·rw [zHs _ _ _ _ _ _ _ _ _ _ (by omega)]
   rw [show IntKind.wrap .i64 ((i:Int)+1)=((i+1:Nat):Int) by rw [zaf (by omega) (by omega)]; omega]
   rw [zsP L kx z0 z1 z2 z3 m hm n (i+1) _ (by omega) (by omega),show m - i=(m - (i+1))+1 by omega]
   rfl
  ·simp only [zfD]
   rw [za2 (by omega),show m - i=0 by omega]
   rfl
theorem zAs (L:Nat) (s:S4) (m:Nat) (hm:m≤1000) (hL:m < L) (k:List V→Option β):xp β L s.row (m:Int) k=k (zBu m s).row:=by
 simp only [xp,zmP,zrJ]
 rw [show (0:Int)=((0:Nat):Int) from rfl,zsP L _ _ _ _ _ m hm L 0 s (by omega) (by omega)]
 simp only [zjU,zA,zma,znA,Nat.sub_zero,zFz,zpE,zlO,true_and,and_true,and_self,Nat.reduceAdd,Nat.reduceMul,Nat.reduceLeDiff,Nat.le_refl,Nat.zero_add]
def zrG (s:S4) (m:Int):S4:=⟨za4 .u64 (rnd (rnd ⟨s.a,s.b,s.c,za4 .u64 s.d m⟩)).a m,(rnd (rnd ⟨s.a,s.b,s.c,za4 .u64 s.d m⟩)).b,(rnd (rnd ⟨s.a,s.b,s.c,za4 .u64 s.d m⟩)).c,(rnd (rnd ⟨s.a,s.b,s.c,za4 .u64 s.d m⟩)).d⟩
theorem zAc (L:Nat) (hL:2 < L) (s:S4) (m:Int) (k:List V→Option β):yx β L s.row m k=k (zrG s m).row:=by
 simp only [yx,zrl,zA,c3,zF4,zma,znA,zpE,zlO,true_and,and_true,and_self,Nat.reduceAdd,Nat.reduceMul,Nat.reduceLeDiff,Nat.le_refl,Nat.zero_add]
 rw [show (2:Int)=((2:Nat):Int) from rfl,zAs L _ 2 (by omega) hL]
 simp only [zma,zrV,c0,zFL,znA,zFz,zBu,zrG,zpE,zlO,true_and,and_true,and_self,Nat.reduceAdd,Nat.reduceMul,Nat.reduceLeDiff,Nat.le_refl,Nat.zero_add]
theorem zAL (L:Nat) (s:S4) (m:Int) (k:List V→Option β):zr β L s.row m k=k (zrG s m).row:=by
 simp only [zr,zoI,zA,c3,zF4,zma,znA,zB4,zrV,c0,zFL,zFz,zrG,zpE,zlO,true_and,and_true,and_self,Nat.reduceAdd,Nat.reduceMul,Nat.reduceLeDiff,Nat.le_refl,Nat.zero_add]
def zr1:Nat→S4→List Int→S4
 | 0,s,_=>s
 | n+1,s,l=>zr1 n (zrG s (zjn 0 0 (l.take 8))) (l.drop 8)
def zFB (s:S4) (n:Int) (l:List Int):S4:=zrG s (ior .u64 (zjn 0 0 l) (zre .u64 (IntKind.wrap .u64 (Int.tmod n 256)) 56))
def zGu (s:S4):S4:=zBu 4 ⟨s.a,s.b,za4 .u64 s.c 255,s.d⟩
def zDs (s:S4):Int:=za4 .u64 (za4 .u64 (za4 .u64 s.a s.b) s.c) s.d
def zGp (s:S4) (n:Int) (l:List Int):Int:=zDs (zGu (zFB s n l))
def zsF (x y:Int):S4:=⟨za4 .u64 x 8317987319222330741,za4 .u64 y 7237128888997146477,za4 .u64 x 7816392313619706465,za4 .u64 y 8387220255154660723⟩
def zqu (x y:Int) (l:List Int):Int:=zGp (zr1 (l.length / 8) (zsF x y) l) l.length (l.drop (l.length / 8 * 8))
theorem zwG (L:Nat) (hL:10 < L) (l:List Int) (hl:l.length≤1000000) (kx:List (List V)→Int→List V→Option β) (p6:Int):∀ (n i:Nat) (s:S4),i≤l.length / 8→l.length / 8 - i < n→zgy xu yx xp L kx n (zaP .u8 l) p6 ((l.length / 8:Nat):Int) (i:Int) s.row=kx (zaP .u8 l) p6 (zr1 (l.length / 8 - i) s (l.drop (8 * i))).row
 | 0,i,s,hi,hn=>by omega
 | n+1,i,s,hi,hn=>by
  simp only [zgy,zmX,zA,zma,znA,zeJ]
  by_cases h:i < l.length / 8
  ·have e1:IntKind.wrap .i64 (8 * (i:Int))=((8 * i:Nat):Int):=by rw [zaf (by omega) (by omega)]; omega
   have e2:IntKind.wrap .i64 (((8 * i:Nat):Int)+8)=((8 * i+8:Nat):Int):=by rw [zaf (by omega) (by omega)]; omega
   have e3:IntKind.wrap .i64 ((i:Int)+1)=((i+1:Nat):Int):=by rw [zaf (by omega) (by omega)]; omega
   rw [zaI (by omega),e1,e2,e3,xc (by decide),xc (by omega),xc (by simp; omega)]
   simp only [Int.toNat_natCast,zxm,zxr]
   rw [zvs _ _ (by simp; omega) (by simp; omega),zAc _ (by omega)]
   simp only [zma,zrV]
   rw [xc (by decide),zwG L hL l hl kx p6 n (i+1) _ (by omega) (by omega),show l.length / 8 - i=(l.length / 8 - (i+1))+1 by omega,zr1,List.drop_drop]
   rw [show 8 * i+8 - 8 * i=8 by omega,show 8 * (i+1)=8 * i+8 by omega]
  ·rw [za2 (by omega),show l.length / 8 - i=0 by omega]
   rfl
theorem zxQ (L:Nat) (x y:Int) (l:List Int) (hl:l.length≤1000000) (hL:l.length+10 < L) (k:Int→Option β):xU β L (row .u64 [x,y]) (zaP .u8 l) k=k (zqu x y l):=by
 simp only [xU,zsL,zwQ,zA,zeJ]
 rw [xI (n:=x) (by rfl),xI (n:=y) (by rfl),xI (n:=x) (by rfl),xI (n:=y) (by rfl)]
 have e1:IntKind.wrap .i64 (Int.tdiv (l.length:Int) 8)=((l.length / 8:Nat):Int):=by
  rw [Int.tdiv_eq_ediv_of_nonneg (by omega),zaf (by omega) (by omega)]; omega
 rw [e1,show (0:Int)=((0:Nat):Int) from rfl]
 have:=zwG (β:=β) L (by omega) l hl (fun p1 p6 b5=>zgZ xu yx xp L p1 p6 b5 k) ((l.length / 8:Nat):Int) L 0 (zsF x y) (by omega) (by omega)
 refine (show _=_ from this).trans ?_
 have e2:IntKind.wrap .i64 (8 * ((l.length / 8:Nat):Int))=((l.length / 8 * 8:Nat):Int):=by rw [zaf (by omega) (by omega)]; omega
 simp only [zgZ,zA,zma,znA,zeJ,Nat.sub_zero,Nat.mul_zero,List.drop_zero]
 rw [xc (by decide),e2,xc (by omega)]
 simp only [Int.toNat_natCast,zxm,zxr]
 rw [List.take_of_length_le (by simp),zvs _ _ (by simp; omega) (by simp; omega),zAc _ (by omega)]
 simp only [zma,zrV,c2,zGt,znA,zpE,zlO,true_and,and_true,and_self,Nat.reduceAdd,Nat.reduceMul,Nat.reduceLeDiff,Nat.le_refl,Nat.zero_add]
 rw [show (4:Int)=((4:Nat):Int) from rfl,zAs _ _ 4 (by omega) (by omega)]
 simp only [zma,zrV,c0,c1,c2,c3,zqu,zGp,zFB,zGu,zDs,zpE,zlO,true_and,and_true,and_self,Nat.reduceAdd,Nat.reduceMul,Nat.reduceLeDiff,Nat.le_refl,Nat.zero_add]
theorem zFG (n:Nat):∀ (s:S4) (l:List Int),zr1 (n+1) s l=zr1 n (zrG s (zjn 0 0 (l.take 8))) (l.drop 8):=fun _ _=>rfl
theorem zwt (L:Nat) (hL:10 < L) (kx:List (List V)→Int→List V→Option β) (p6:Int):∀ (n:Nat) (l:List Int) (s:S4),l.length≤1000000→l.length / 8 < n→zfC xo zr zm L kx n (zaP .u8 l) p6 s.row=kx (zaP .u8 (l.drop (l.length / 8 * 8))) p6 (zr1 (l.length / 8) s l).row
 | 0,l,s,hl,hn=>by omega
 | n+1,l,s,hl,hn=>by
  simp only [zfC,zmc,zA,zma,znA,zeJ]
  by_cases h:8≤l.length
  ·rw [zaI (by omega),xc (by decide),xc (by omega)]
   simp only [zxm,zxr,List.drop_zero]
   rw [zuB _ _ (by simp; omega) (by simp; omega),zAL,xc (by omega)]
   simp only [zma,zrV]
   rw [xc (by decide),List.take_of_length_le (by simp),zwt L hL kx p6 n _ _ (by simp; omega) (by simp; omega)]
   have e:(l.drop 8).length / 8=l.length / 8 - 1:=by simp; omega
   rw [e,List.drop_drop,show 8+(l.length / 8 - 1) * 8=l.length / 8 * 8 by omega]
   obtain ⟨q,hq⟩:∃ q,l.length / 8=q+1:=⟨l.length / 8 - 1,by omega⟩
   rw [hq,zFG]
   rfl
  ·have e:l.length / 8=0:=by omega
   rw [za2 (by omega),e]
   rfl
theorem zxU (L:Nat) (x y:Int) (l:List Int) (hl:l.length≤1000000) (hL:l.length+10 < L) (k:Int→Option β):yL β L (row .u64 [x,y]) (zaP .u8 l) k=k (zqu x y l):=by
 simp only [yL,zoY,zti,zA,zeJ]
 rw [xI (n:=x) (by rfl),xI (n:=y) (by rfl),xI (n:=x) (by rfl),xI (n:=y) (by rfl)]
 have:=zwt (β:=β) L (by omega) (fun p1 p6 b5=>zgv xo zr zm L p1 p6 b5 k) (l.length:Int) L l (zsF x y) hl (by omega)
 refine (show _=_ from this).trans ?_
 simp only [zgv,zA,zma,znA]
 rw [xc (by decide),zuB _ _ (by simp; omega) (by simp; omega)]
 simp only [zAL,zma,zrV,c2,zGt,znA,zB4,c0,c1,c3,zqu,zGp,zFB,zGu,zDs,zBu,zpE,zlO,true_and,and_true,and_self,Nat.reduceAdd,Nat.reduceMul,Nat.reduceLeDiff,Nat.le_refl,Nat.zero_add]
end
section
set_option linter.unusedVariables false
set_option linter.unusedSimpArgs false
variable {β:Type}
structure Adr where
 h:Int
 p:Int
 t:Int
def Adr.v (a:Adr):List V:=[.sc (.int .u32 a.h),.sc (.int .u16 a.p),.sc (.int .u32 a.t)]
structure Lnk where
 k:Int
 a:Adr
def Lnk.v (l:Lnk):List V:=[.sc (.int .i64 l.k),.sc (.int .u32 l.a.h),.sc (.int .u16 l.a.p),.sc (.int .u32 l.a.t)]
def grp (a:Adr):Int:=znO .u32 a.h 16
def zaB (l:List Lnk):List (List V):=l.map Lnk.v
theorem zd0 (l:List Lnk):(zaB l).length=l.length:=by simp [zaB]
theorem zrN {l:List Lnk} {i:Nat} (h:i < l.length):(zaB l)[i]?=some l[i].v:=by simp [zaB,h]
theorem zHt (l:List Lnk) (i:Nat):(zaB l).take i=zaB (l.take i):=by simp [zaB,List.map_take]
theorem zrS (L:Nat) (a:Adr) (k:Int→Option β):yb β L a.v k=k (grp a):=by
 simp only [yb,zl3,Adr.v,zA]
 rw [xI (by rfl)]; rfl
theorem zzk (L:Nat) (a:Adr) (k:Int→Option β):zk β L a.v k=k (grp a):=by
 simp only [zk,zp6,Adr.v,zA]
 rw [xI (by rfl)]; rfl
def tkn (l:List Lnk) (a:Adr):Bool:=l.any (fun e=>grp e.a == grp a)
theorem zIl (L:Nat) (l:Lnk) (a:Adr) (k:Bool→List V→Option β):yj β L l.v a.v k=k (grp l.a == grp a) a.v:=by
 simp only [yj,zke]
 have e1:List.take 3 (List.drop 1 l.v)=l.a.v:=rfl
 have e2:List.take 3 a.v=a.v:=rfl
 rw [xc (by show 1+3≤4; omega),e1,zrS,xc (by show 0+3≤3; omega),e2,zrS]
theorem zyV (L:Nat) (ls:List Lnk) (hl:ls.length≤1000000) (a:Adr) (kr:Int→List V→Option β) (kx:List V→Option β) (k:Bool→Option β) (hr:∀ j:Nat,kr (j:Int) a.v=k true) (hx:kx a.v=k false) :
  ∀ (m i:Nat),i≤ls.length→ls.length - i < m→zaa yj L kr kx m (zaB ls) ((ls.length:Nat):Int) (i:Int) a.v=k (tkn (ls.drop i) a)
 | 0,i,h1,h2=>by omega
 | m+1,i,h1,h2=>by
  simp only [zaa,zbM,zA]
  by_cases h:i < ls.length
  ·have e1:List.take 4 ls[i].v=ls[i].v:=rfl
   rw [zaI (by omega),za3 (zrN h),e1,zIl,xc rfl,zab (by omega),zyV L ls hl a kr kx k hr hx m (i+1) (by omega) (by omega),List.drop_eq_getElem_cons h,hr]
   have e:tkn (ls[i]::ls.drop (i+1)) a=(grp ls[i].a == grp a || tkn (ls.drop (i+1)) a):=rfl
   rw [e]
   cases (grp ls[i].a == grp a) <;> rfl
  ·rw [za2 (by omega),hx,List.drop_of_length_le (by omega)]; rfl
theorem zsQ (L:Nat) (ls:List Lnk) (hl:ls.length≤1000000) (hL:ls.length < L) (a:Adr) (k:Bool→Option β):ya β L (zaB ls) a.v k=k (tkn ls a):=by
 simp only [ya,zmh,zq,zbS,yt,za9,zcd,zd0]
 rw [show ((0:Int))=((0:Nat):Int) from rfl,zyV L ls hl a _ _ k (fun j=>?_) ?_ L 0 (by omega) (by omega),List.drop_zero]
 ·simp only [zbn]
  rw [zlO,zlO]
  rfl
 ·simp only [zbk]
  rw [zlO,zlO,decide_eq_true (by omega)]
theorem zEg (L:Nat) (n:Int) (k:Bool→Option β):xi β L n k=k (decide (1≤n∧n≤3)):=by
 simp only [xi,zm5,zhr]
 by_cases h1:n=1
 ·subst h1; rfl
 ·rw [if_neg h1]
  by_cases h2:n=2
  ·subst h2; rfl
  ·rw [if_neg h2]
   congr 1
   rw [Bool.eq_iff_iff]
   simp
   omega
def snd (l:List Lnk) (i:Nat):Bool:=match l[i]? with
 | some e=>decide (1≤e.k∧e.k≤3) && !(tkn (l.take i) e.a)
 | none=>true
def zBE (l:List Lnk) (i:Nat):Nat→Bool
 | 0=>true
 | n+1=>snd l i && zBE l (i+1) n
def zj0 (l:List Lnk):Bool:=decide (l.length≤8) && zBE l 0 l.length
theorem zyQ (L:Nat) (ls:List Lnk) (hl:ls.length≤8) (hL:100≤L) (kr:Bool→Option β) (kx:Option β) (k:Bool→Option β) (hr:kr false=k false) (hx:kx=k true) :
  ∀ (m i:Nat),i≤ls.length→ls.length - i < m→zdt xi ya L kr kx m (zaB ls) (zaB ls) ((ls.length:Nat):Int) (i:Int)=k (zBE ls i (ls.length - i))
 | 0,i,h1,h2=>by omega
 | m+1,i,h1,h2=>by
  simp only [zdt,zip,zA]
  by_cases h:i < ls.length
  ·have e1:List.take 4 ls[i].v=ls[i].v:=rfl
   have e2:xg [(V.sc (.int .i64 (0:Int))),(V.sc (.int .u32 (0:Int))),(V.sc (.int .u16 (0:Int))),(V.sc (.int .u32 (0:Int)))] 0 ls[i].v=ls[i].v:=zda rfl
   have e3:List.take 3 (List.drop 1 ls[i].v)=ls[i].a.v:=rfl
   have e4:ls.length - i=(ls.length - (i+1))+1:=by omega
   rw [zaI (by omega),za3 (zrN h),e1,xc ⟨rfl,by omega⟩,e2,xI (n:=ls[i].k) rfl,zEg,zze,e4,zBE,snd,List.getElem?_eq_getElem h]
   simp only
   by_cases hk:1≤ls[i].k∧ls[i].k≤3
   ·rw [if_pos hk,zd0,xc ⟨by omega,by omega⟩,xc (by show 1+3≤4; omega),e3,Nat.sub_zero,Int.toNat_natCast,List.drop_zero,zHt,zsQ L (ls.take i) (by simp; omega) (by simp; omega),decide_eq_true hk]
    cases hb:tkn (ls.take i) ls[i].a with
    | true=>exact hr
    | false =>
     rw [zaQ,zab (by omega),zyQ L ls hl hL kr kx k hr hx m (i+1) (by omega) (by omega)]
     rfl
   ·rw [if_neg hk,hr,decide_eq_false hk]; rfl
  ·rw [za2 (by omega),hx,show ls.length - i=0 by omega]; rfl
theorem zCa (L:Nat) (ls:List Lnk) (hL:100≤L) (k:Bool→Option β):ye β L (zaB ls) k=k (zj0 ls):=by
 simp only [ye,zjk,zmT,zd0,zaq]
 by_cases h:ls.length≤8
 ·rw [if_neg (by omega),show ((0:Int))=((0:Nat):Int) from rfl]
  refine (zyQ L ls h hL _ _ k ?_ ?_ L 0 (by omega) (by omega)).trans ?_
  ·rfl
  ·rfl
  ·rw [zj0,decide_eq_true h]; rfl
 ·rw [if_pos (by omega),zj0,decide_eq_false h]
  rfl
end
section
set_option linter.unusedVariables false
set_option linter.unusedSimpArgs false
variable {β:Type}
def cnt (kd:Int):List Lnk→Nat
 | []=>0
 | l::ls=>(if l.k=kd then 1 else 0)+cnt kd ls
theorem zHD (kd:Int):∀ ls:List Lnk,cnt kd ls≤ls.length
 | []=>Nat.le_refl _
 | l::ls=>by have:=zHD kd ls; simp only [cnt,List.length_cons]; split <;> omega
theorem zuT (L:Nat) (ls:List Lnk) (hl:ls.length≤1000000) (kx:Int→Option β):∀ (m i c:Nat),c≤i→i≤ls.length→ls.length - i < m→zdv xm L kx m (c:Int) (zaB ls) ((ls.length:Nat):Int) (i:Int)=kx ((c+cnt 1 (ls.drop i):Nat):Int)
 | 0,i,c,h0,h1,h2=>by omega
 | m+1,i,c,h0,h1,h2=>by
  simp only [zdv,zhY,zA]
  by_cases h:i < ls.length
  ·have e1:List.take 4 ls[i].v=ls[i].v:=rfl
   have e2:xg [(V.sc (.int .i64 (0:Int))),(V.sc (.int .u32 (0:Int))),(V.sc (.int .u16 (0:Int))),(V.sc (.int .u32 (0:Int)))] 0 ls[i].v=ls[i].v:=zda rfl
   have e:cnt 1 (ls[i]::ls.drop (i+1))=(if ls[i].k=1 then 1 else 0)+cnt 1 (ls.drop (i+1)):=rfl
   rw [zaI (by omega),za3 (zrN h),e1,xc ⟨rfl,by omega⟩,e2,xc (by show 0+4≤4; omega),e1,xm,zjI,xI (n:=ls[i].k) rfl,zhr,List.drop_eq_getElem_cons h,e]
   by_cases hk:ls[i].k=1
   ·rw [if_pos hk,if_pos hk,zab (by omega),zab (by omega),zuT L ls hl kx m (i+1) (c+1) (by omega) (by omega) (by omega),Nat.add_assoc]
   ·rw [if_neg hk,if_neg hk,zab (by omega),zuT L ls hl kx m (i+1) c (by omega) (by omega) (by omega),Nat.zero_add]
  ·rw [za2 (by omega),List.drop_of_length_le (by omega)]; rfl
theorem zHW (L:Nat) (ls:List Lnk) (hl:ls.length≤1000000) (hL:ls.length < L) (k:Int→Option β):zn β L (zaB ls) k=k ((cnt 1 ls:Nat):Int):=by
 simp only [zn,zi5,zmS,zd0]
 rw [show ((0:Int))=((0:Nat):Int) from rfl,zuT L ls hl _ L 0 0 (by omega) (by omega) (by omega),List.drop_zero,Nat.zero_add]
 rfl
theorem zr7 (L:Nat) (ls:List Lnk) (hl:ls.length≤1000000) (kx:Int→Option β):∀ (m i c:Nat),c≤i→i≤ls.length→ls.length - i < m→zcU ym L kx m (c:Int) (zaB ls) ((ls.length:Nat):Int) (i:Int)=kx ((c+cnt 3 (ls.drop i):Nat):Int)
 | 0,i,c,h0,h1,h2=>by omega
 | m+1,i,c,h0,h1,h2=>by
  simp only [zcU,zgQ,zA]
  by_cases h:i < ls.length
  ·have e1:List.take 4 ls[i].v=ls[i].v:=rfl
   have e2:xg [(V.sc (.int .i64 (0:Int))),(V.sc (.int .u32 (0:Int))),(V.sc (.int .u16 (0:Int))),(V.sc (.int .u32 (0:Int)))] 0 ls[i].v=ls[i].v:=zda rfl
   have e:cnt 3 (ls[i]::ls.drop (i+1))=(if ls[i].k=3 then 1 else 0)+cnt 3 (ls.drop (i+1)):=rfl
   rw [zaI (by omega),za3 (zrN h),e1,xc ⟨rfl,by omega⟩,e2,xc (by show 0+4≤4; omega),e1,ym,zjP,xI (n:=ls[i].k) rfl,zhr,List.drop_eq_getElem_cons h,e]
   by_cases hk:ls[i].k=3
   ·rw [if_pos hk,if_pos hk,zab (by omega),zab (by omega),zr7 L ls hl kx m (i+1) (c+1) (by omega) (by omega) (by omega),Nat.add_assoc]
   ·rw [if_neg hk,if_neg hk,zab (by omega),zr7 L ls hl kx m (i+1) c (by omega) (by omega) (by omega),Nat.zero_add]
  ·rw [za2 (by omega),List.drop_of_length_le (by omega)]; rfl
theorem zFR (L:Nat) (ls:List Lnk) (hl:ls.length≤1000000) (hL:ls.length < L) (k:Int→Option β):yk β L (zaB ls) k=k ((cnt 3 ls:Nat):Int):=by
 simp only [yk,zg8,zk1,zd0]
 rw [show ((0:Int))=((0:Nat):Int) from rfl,zr7 L ls hl _ L 0 0 (by omega) (by omega) (by omega),List.drop_zero,Nat.zero_add]
 rfl
end
section
set_option linter.unusedVariables false
set_option linter.unusedSimpArgs false
variable {β:Type}
structure Plc where
 b:Int
 a:Adr
 s:Int
def Plc.v (e:Plc):List V:=[.sc (.int .i64 e.b),.sc (.int .u32 e.a.h),.sc (.int .u16 e.a.p),.sc (.int .u32 e.a.t),.sc (.int .u32 e.s)]
def zS (l:List Plc):List (List V):=l.map Plc.v
theorem zac (l:List Plc):(zS l).length=l.length:=by simp [zS]
theorem zcD {l:List Plc} {i:Nat} (h:i < l.length):(zS l)[i]?=some l[i].v:=by simp [zS,h]
theorem zzf (l m:List Plc):zS l++zS m=zS (l++m):=by simp [zS]
def zeN (l:List Adr):List (List V):=l.map Adr.v
theorem zzo (l:List Adr):(zeN l).length=l.length:=by simp [zeN]
theorem zDN {l:List Adr} {i:Nat} (h:i < l.length):(zeN l)[i]?=some l[i].v:=by simp [zeN,h]
def ziP (ls:List Lnk) (ps:List Plc):List Adr:=(ps.filter (fun e=>!tkn ls e.a)).map Plc.a
theorem zzE (ls:List Lnk) (ps:List Plc):(ziP ls ps).length≤ps.length:=by
 rw [ziP,List.length_map]; exact List.length_filter_le _ _
theorem zIL (ls:List Lnk) (ps qs:List Plc):ziP ls (ps++qs)=ziP ls ps++ziP ls qs:=by simp [ziP]
theorem zH0 {ls:List Lnk} {e:Plc} (ps:List Plc) (h:tkn ls e.a=false):ziP ls (e::ps)=e.a::ziP ls ps:=by simp [ziP,h]
theorem zJy {ls:List Lnk} {e:Plc} (ps:List Plc) (h:tkn ls e.a=true):ziP ls (e::ps)=ziP ls ps:=by simp [ziP,h]
theorem zI3 (a:Adr):yl 3 1 (xg [(V.sc (.int .u32 (0:Int))),(V.sc (.int .u16 (0:Int))),(V.sc (.int .u32 (0:Int)))] 0 a.v)=[a.v]:=by
 rw [zda (by rfl)]; rfl
theorem zHL (l:List Adr) (a:Adr):zeN l++[a.v]=zeN (l++[a]):=by simp [zeN]
theorem zvd (L:Nat) (ls:List Lnk) (hl:ls.length≤1000000) (hL:ls.length < L) (ps:List Plc) (hp:ps.length≤1000000) (kx:List (List V)→List (List V)→Option β) :
  ∀ (m i:Nat) (out:List Adr),out.length≤1000000+i→i≤ps.length→ps.length - i < m→zcf ya L kx m (zS ps) ((ps.length:Nat):Int) (i:Int) (zaB ls) (zeN out)=kx (zaB ls) (zeN (out++ziP ls (ps.drop i)))
 | 0,i,out,h0,h1,h2=>by omega
 | m+1,i,out,h0,h1,h2=>by
  simp only [zcf,zfv,zA]
  by_cases h:i < ps.length
  ·have e1:List.take 5 ps[i].v=ps[i].v:=rfl
   have e2:xg [(V.sc (.int .i64 (0:Int))),(V.sc (.int .u32 (0:Int))),(V.sc (.int .u16 (0:Int))),(V.sc (.int .u32 (0:Int))),(V.sc (.int .u32 (0:Int)))] 0 ps[i].v=ps[i].v:=zda rfl
   have e3:List.take 3 (List.drop 1 ps[i].v)=ps[i].a.v:=rfl
   rw [zaI (by omega),za3 (zcD h),e1,xc ⟨rfl,by omega⟩,e2,xc (by show 1+3≤5; omega),e3,zsQ L ls hl hL,List.drop_eq_getElem_cons h]
   cases hb:tkn ls ps[i].a with
   | true=>rw [Bool.not_true,zaQ,zab (by omega),zvd L ls hl hL ps hp kx m (i+1) out (by omega) (by omega) (by omega),zJy _ hb]
   | false =>
    rw [Bool.not_false,zeE,xc (by show 1+3≤5; omega),xc ⟨rfl,by omega⟩,zI3,zzo,List.length_singleton,xc ⟨by simp only [zs]; omega,by simp only [zs]; omega⟩,zHL,zab (by omega),zvd L ls hl hL ps hp kx m (i+1) _ (by simp; omega) (by omega) (by omega),zH0 _ hb,List.append_assoc]
    rfl
  ·rw [za2 (by omega),List.drop_of_length_le (by omega)]
   show _=kx (zaB ls) (zeN (out++[]))
   rw [List.append_nil]
theorem zBB (L:Nat) (ls:List Lnk) (hl:ls.length≤1000000) (hL:ls.length < L) (ps:List Plc) (hp:ps.length≤1000000) (hpL:ps.length < L) (out:List Adr) (ho:out.length≤1000000) (k:List (List V)→List (List V)→Option β) :
  yD β L (zS ps) (zaB ls) (zeN out) k=k (zaB ls) (zeN (out++ziP ls ps)):=by
 simp only [yD,zec,zgI,zac]
 rw [show ((0:Int))=((0:Nat):Int) from rfl,zvd L ls hl hL ps hp _ L 0 out (by omega) (by omega) (by omega),List.drop_zero]
 rfl
def zpa (H T:List Plc) (ls:List Lnk) (kd:Int):List Adr:=if kd=2 then ziP ls (T++H) else if kd=3 then ziP ls H else []
theorem zHd (L:Nat) (ls:List Lnk) (hl:ls.length≤1000000) (hL:ls.length < L) (p0:List V) (H T:List Plc) (hH:H.length≤1000000) (hT:T.length≤1000000) (hHL:H.length < L) (hTL:T.length < L) (g1:p0[32]?=some (.sl 5 (zS H))) (g2:p0[33]?=some (.sl 5 (zS T))) (kd:Int) (k:List (List V)→Option β) :
  zb β L p0 (zaB ls) kd k=k (zeN (zpa H T ls kd)):=by
 simp only [zb,zhL,zhr]
 have e0:([]:List (List V))=zeN []:=rfl
 rw [e0,zpa]
 by_cases h2:kd=2
 ·rw [if_pos h2,if_pos h2,zc6 g2,zBB L ls hl hL T hT hTL [] (by simp),zc6 g1,zBB L ls hl hL H hH hHL _ (by have:=zzE ls T; simp; omega),zIL,List.nil_append]
 ·rw [if_neg h2,if_neg h2]
  by_cases h3:kd=3
  ·rw [if_pos h3,if_pos h3,zc6 g1,zBB L ls hl hL H hH hHL [] (by simp),List.nil_append]
  ·rw [if_neg h3,if_neg h3]
end
section
set_option linter.unusedVariables false
set_option linter.unusedSimpArgs false
variable {β:Type}
structure Bk where
 salt:List Int
 H:List Plc
 T:List Plc
 hs:salt.length=32
def Bk.v (b:Bk):List V:=row .u8 b.salt++[.sl 5 (zS b.H),.sl 5 (zS b.T)]
theorem Bk.len (b:Bk):b.v.length=34:=by simp [Bk.v,zcq,b.hs]
theorem Bk.take (b:Bk):List.take 34 b.v=b.v:=List.take_of_length_le (by rw [b.len]; exact Nat.le_refl _)
theorem zJI (k:IntKind) (l:List Int):(row k l).map V.dem=row k l:=by simp [row,V.dem]
theorem Bk.dem (b:Bk):List.map V.dem b.v=b.v:=by
 rw [Bk.v,List.map_append,zJI]; rfl
theorem Bk.g32 (b:Bk):b.v[32]?=some (.sl 5 (zS b.H)):=by
 rw [Bk.v,List.getElem?_append_right (by rw [zcq,b.hs]; omega),zcq,b.hs]; rfl
theorem Bk.g33 (b:Bk):b.v[33]?=some (.sl 5 (zS b.T)):=by
 rw [Bk.v,List.getElem?_append_right (by rw [zcq,b.hs]; omega),zcq,b.hs]; rfl
def Lnk0:Lnk:=⟨0,⟨0,0,0⟩⟩
def zA6 (c:List Adr) (draw:Int):Adr:=c.getD (Int.tmod draw (c.length:Int)).toNat ⟨0,0,0⟩
def ztW (b:Bk) (ls:List Lnk) (kd draw:Int):Lnk × Int :=
 if zpa b.H b.T ls kd=[] then (Lnk0,390) else (⟨kd,zA6 (zpa b.H b.T ls kd) draw⟩,0)
theorem zDQ (c:List Adr) (hc:c.length≤4000000) (draw:Int) (hd:0≤draw) (A:Option β) (G:List V→Option β) :
  ifb ((((zeN c).length:Nat):Int) == 0) A (lt (IntKind.wrap .u64 (((zeN c).length:Nat):Int)) fun x=>chk (x≠0) (lt (Int.tmod draw x) fun y=>idx (zeN c) y fun e=>G e))=if c=[] then A else G (zA6 c draw).v:=by
 rw [zhr,zzo]
 by_cases h:c=[]
 ·subst h; rfl
 ·have hpos:0 < c.length:=List.length_pos_iff.2 h
  rw [if_neg (by omega),if_neg h]
  simp only [zA]
  rw [zDW (by omega) (by omega),xc (by omega)]
  have e:Int.tmod draw (c.length:Int)=((Int.tmod draw (c.length:Int)).toNat:Int):=by
   rw [Int.toNat_of_nonneg (Int.tmod_nonneg _ hd)]
  have hlt:(Int.tmod draw (c.length:Int)).toNat < c.length:=by
   have:=Int.tmod_lt_of_pos draw (b:=(c.length:Int)) (by omega)
   have:=Int.tmod_nonneg (c.length:Int) hd
   omega
  rw [e,za3 (zDN hlt),zA6,List.getD_eq_getElem?_getD,List.getElem?_eq_getElem hlt]
  rfl
def zb8 (ls:List Lnk):List Adr→Option Adr
 | []=>none
 | a::l=>if tkn ls a then zb8 ls l else some a
def zq7 (b:Bk) (ls:List Lnk) (draw:Int):Lnk × Int :=
 if (ls.length:Int) - (cnt 3 ls:Int) ≥ 7 then (if (cnt 3 ls:Int) > 0 then (Lnk0,380) else ztW b ls 3 draw) else ztW b ls 2 draw
def zfj (bs:Bool) (b:Bk) (an:List Adr) (ls:List Lnk) (draw:Int):Lnk × Int :=
 if zj0 ls=false then (Lnk0,6) else if bs=false then (Lnk0,6) else if 8≤ls.length then (Lnk0,380) else
 if cnt 1 ls < 2 then (match zb8 ls an with | some a=>(⟨1,a⟩,0) | none=>zq7 b ls draw) else zq7 b ls draw
def zGx (k:List V→Int→Option β) (r:Lnk × Int):Option β:=k r.1.v r.2
theorem zCD (b:Bk) (ls:List Lnk) (kd:Int) (hH:b.H.length≤1000000) (hT:b.T.length≤1000000):(zpa b.H b.T ls kd).length≤4000000:=by
 unfold zpa
 split
 ·have:=zzE ls (b.T++b.H); rw [List.length_append] at this; omega
 ·split
  ·have:=zzE ls b.H; omega
  ·simp
theorem zJ7 (kd:Int) (a:Adr) (k:List V→Int→Option β):(chk ((List.length (List.take 3 a.v))=3∧1+3≤4) (
 chk ((List.length (xg [(V.sc (.int .i64 kd)),(V.sc (.int .u32 (0:Int))),(V.sc (.int .u16 (0:Int))),(V.sc (.int .u32 (0:Int)))] 1 (List.take 3 a.v)))=4∧0+4≤4) (
 lt (xg [(V.sc (.int .i64 (0:Int))),(V.sc (.int .u32 (0:Int))),(V.sc (.int .u16 (0:Int))),(V.sc (.int .u32 (0:Int)))] 0 (xg [(V.sc (.int .i64 kd)),(V.sc (.int .u32 (0:Int))),(V.sc (.int .u16 (0:Int))),(V.sc (.int .u32 (0:Int)))] 1 (List.take 3 a.v))) fun r14 =>
 chk (0=0∧(List.length r14)=4∧4≠0) (
 k r14 (0:Int)))))=k (⟨kd,a⟩:Lnk).v 0:=by
 rw [xc ⟨rfl,by omega⟩,xc ⟨rfl,by omega⟩,zA,xc ⟨rfl,rfl,by omega⟩]
 rfl
theorem zBA (e:Int) (k:List V→Int→Option β):(lt [(V.sc (.int .i64 (0:Int))),(V.sc (.int .u32 (0:Int))),(V.sc (.int .u16 (0:Int))),(V.sc (.int .u32 (0:Int)))] fun r1 =>
 chk (0=0∧(List.length r1)=4∧4≠0) (k r1 e))=k Lnk0.v e:=by
 rw [zA,xc ⟨rfl,rfl,by omega⟩]; rfl
theorem zIT (L:Nat) (b:Bk) (hH:b.H.length≤1000000) (hT:b.T.length≤1000000) (hL:2000000 < L) (ls:List Lnk) (hl:ls.length≤1000000) (draw:Int) (hd:0≤draw) (k:List V→Int→Option β) :
  zbY ye xl zn yk zb ya L (zaB ls) draw b.v 0 0 0 0 k=zGx k (zq7 b ls draw):=by
 have hc:=zHD 3 ls
 unfold zbY
 rw [zFR L ls hl (by omega),zA,zd0,zaf (by omega) (by omega),zaq,zq7]
 by_cases h7:(ls.length:Int) - (cnt 3 ls:Int) ≥ 7
 ·rw [if_pos h7,if_pos h7,zaq]
  by_cases hf:(cnt 3 ls:Int) > 0
  ·rw [if_pos hf,if_pos hf,zBA]; rfl
  ·rw [if_neg hf,if_neg hf,xc (by rw [b.len]; omega),b.take,b.dem,zHd L ls hl (by omega) b.v b.H b.T hH hT (by omega) (by omega) b.g32 b.g33]
   refine (zDQ _ (zCD b ls 3 hH hT) draw hd _ _).trans ?_
   rw [ztW]
   by_cases h:zpa b.H b.T ls 3=[]
   ·rw [if_pos h,if_pos h,zBA]; rfl
   ·rw [if_neg h,if_neg h,zJ7]; rfl
 ·rw [if_neg h7,if_neg h7,xc (by rw [b.len]; omega),b.take,b.dem,zHd L ls hl (by omega) b.v b.H b.T hH hT (by omega) (by omega) b.g32 b.g33]
  refine (zDQ _ (zCD b ls 2 hH hT) draw hd _ _).trans ?_
  rw [ztW]
  by_cases h:zpa b.H b.T ls 2=[]
  ·rw [if_pos h,if_pos h,zBA]; rfl
  ·rw [if_neg h,if_neg h,zJ7]; rfl
theorem zEc (L:Nat) (b:Bk) (ls:List Lnk) (hl:ls.length≤1000000) (hL:ls.length < L) (an:List Adr) (ha:an.length≤1000000) (draw:Int) (kr:Int→List V→Option β) (kx:zkj β) :
  ∀ (m i:Nat),i≤an.length→an.length - i < m→zcg ye xl zn yk zb ya L kr kx m (zaB ls) draw (zeN an) ((an.length:Nat):Int) (i:Int) b.v 0 0 0 0 =
   match zb8 ls (an.drop i) with | some a=>kr 0 (⟨1,a⟩:Lnk).v | none=>kx (zaB ls) draw b.v 0 0 0 0
 | 0,i,h1,h2=>by omega
 | m+1,i,h1,h2=>by
  simp only [zcg,zfl,zA]
  by_cases h:i < an.length
  ·have e1:List.take 3 an[i].v=an[i].v:=rfl
   have e2:xg [(V.sc (.int .u32 (0:Int))),(V.sc (.int .u16 (0:Int))),(V.sc (.int .u32 (0:Int)))] 0 an[i].v=an[i].v:=zda rfl
   rw [zaI (by omega),za3 (zDN h),e1,xc ⟨rfl,by omega⟩,e2,xc (by show 0+3≤3; omega),e1,zsQ L ls hl hL,List.drop_eq_getElem_cons h,zb8]
   cases hb:tkn ls an[i] with
   | true=>rw [Bool.not_true,zaQ,zab (by omega),zEc L b ls hl hL an ha draw kr kx m (i+1) (by omega) (by omega),if_pos rfl]
   | false =>
    rw [Bool.not_false,zeE,xc (by show 0+3≤3; omega),xc ⟨rfl,by omega⟩,xc ⟨rfl,by omega⟩,if_neg (by simp)]
    rfl
  ·rw [za2 (by omega),List.drop_of_length_le (by omega)]
   rfl
theorem zJa (L:Nat) (b:Bk) (hH:b.H.length≤1000000) (hT:b.T.length≤1000000) (hL:2000000 < L) (bs:Bool) (hB:∀ k:Bool→Option β,xl β L b.v k=k bs) (an:List Adr) (ha:an.length≤1000000) (ls:List Lnk) (hl:ls.length≤1000000) (draw:Int) (hd:0≤draw) (k:List V→Int→Option β) :
  xb β L b.v (zeN an) (zaB ls) draw k=zGx k (zfj bs b an ls draw):=by
 unfold xb zhS zl9
 rw [zCa L ls (by omega),zfj]
 cases hs:zj0 ls with
 | false=>rw [Bool.not_false,zeE,zBA,if_pos rfl]; rfl
 | true =>
  rw [Bool.not_true,zaQ,xc (by rw [b.len]; omega),b.take,b.dem,hB,if_neg (show ¬ ((true:Bool)=false) by simp)]
  cases bs with
  | false=>rw [Bool.not_false,zeE,zBA,if_pos rfl]; rfl
  | true =>
   rw [Bool.not_true,zaQ,zaq,if_neg (show ¬ ((true:Bool)=false) by simp),zd0]
   by_cases h8:8≤ls.length
   ·rw [if_pos (by omega),if_pos h8,zBA]; rfl
   ·rw [if_neg (by omega),if_neg h8,zHW L ls hl (by omega),zaq]
    by_cases h2:cnt 1 ls < 2
    ·rw [if_pos (by omega),if_pos h2,zzo,show ((0:Int))=((0:Nat):Int) from rfl]
     refine (zEc L b ls hl (by omega) an ha draw _ _ L 0 (by omega) (by omega)).trans ?_
     rw [List.drop_zero]
     cases zb8 ls an with
     | some a=>unfold zel; exact xc ⟨rfl,rfl,by omega⟩ _
     | none=>exact zIT L b hH hT hL ls hl draw hd k
    ·rw [if_neg (by omega),if_neg h2]
     have:=zIT (β:=β) L b hH hT hL ls hl draw hd k
     unfold zbY at this
     rw [zd0,b.take,b.dem] at this
     exact this
end
section
set_option linter.unusedVariables false
set_option linter.unusedSimpArgs false
set_option maxRecDepth 100000
variable {β:Type}
def le4 (x:Int):List Int:=[IntKind.wrap .u8 (znO .u64 x 0),IntKind.wrap .u8 (znO .u64 x 8),IntKind.wrap .u8 (znO .u64 x 16),IntKind.wrap .u8 (znO .u64 x 24)]
def le2 (x:Int):List Int:=[IntKind.wrap .u8 (znO .u64 x 0),IntKind.wrap .u8 (znO .u64 x 8)]
theorem zKJ (L:Nat) (x:Int) (k:List (List V)→Option β):yG β (L+10) x 4 k=k (zaP .u8 (le4 x)):=by kernel_rfl
theorem zKO (L:Nat) (x:Int) (k:List (List V)→Option β):yG β (L+10) x 2 k=k (zaP .u8 (le2 x)):=by kernel_rfl
theorem zKL (L:Nat) (x:Int) (k:List (List V)→Option β):yF β (L+10) x 4 k=k (zaP .u8 (le4 x)):=by kernel_rfl
theorem zKK (L:Nat) (x:Int) (k:List (List V)→Option β):yF β (L+10) x 2 k=k (zaP .u8 (le2 x)):=by kernel_rfl
theorem zGD (L:Nat) (l m:List Int) (hl:l.length≤1000) (hm:m.length≤1000) (k:List (List V)→Option β):xF β L (zaP .u8 l) (zaP .u8 m) k=k (zaP .u8 (l++m)):=by
 simp only [xF,zoM,zA,zeJ,List.replicate_zero,List.length_nil,Nat.zero_add,List.nil_append]
 rw [zaf (by omega) (by omega),xc ⟨by omega,by omega,by simp only [zs]; omega,by simp only [zs]; omega⟩,xc ⟨by simp only [zs]; omega,by simp only [zs]; omega⟩,xc ⟨by simp only [zs]; omega,by simp only [zs]; omega⟩,zEk]
theorem zE6 (L:Nat) (l m:List Int) (hl:l.length≤1000) (hm:m.length≤1000) (k:List (List V)→Option β):zG β L (zaP .u8 l) (zaP .u8 m) k=k (zaP .u8 (l++m)):=by
 simp only [zG,zoA,zA,zeJ,List.replicate_zero,List.length_nil,Nat.zero_add,List.nil_append]
 rw [zaf (by omega) (by omega),xc ⟨by omega,by omega,by simp only [zs]; omega,by simp only [zs]; omega⟩,xc ⟨by simp only [zs]; omega,by simp only [zs]; omega⟩,xc ⟨by simp only [zs]; omega,by simp only [zs]; omega⟩,zEk]
def w64 (x:Int):Int:=IntKind.wrap .u64 x
theorem zzz (L:Nat) (l:List Int) (hl:l.length≤900) (x:Int) (k:List (List V)→Option β):xw β (L+10) (zaP .u8 l) x k=k (zaP .u8 (l++le4 (w64 x))):=by
 simp only [xw,zll,zA]
 rw [zKJ,zGD _ _ _ (by omega) (by simp [le4])]; rfl
theorem zKM (L:Nat) (l:List Int) (hl:l.length≤900) (x:Int) (k:List (List V)→Option β):yR β (L+10) (zaP .u8 l) x k=k (zaP .u8 (l++le2 (w64 x))):=by
 simp only [yR,zk4,zA]
 rw [zKO,zGD _ _ _ (by omega) (by simp [le2])]; rfl
theorem zvv (L:Nat) (l:List Int) (hl:l.length≤900) (x:Int) (k:List (List V)→Option β):yw β (L+10) (zaP .u8 l) x k=k (zaP .u8 (l++le4 (w64 x))):=by
 simp only [yw,zk2,zA]
 rw [zKL,zE6 _ _ _ (by omega) (by simp [le4])]; rfl
theorem zKt (L:Nat) (l:List Int) (hl:l.length≤900) (x:Int) (k:List (List V)→Option β):xR β (L+10) (zaP .u8 l) x k=k (zaP .u8 (l++le2 (w64 x))):=by
 simp only [xR,zk3,zA]
 rw [zKK,zE6 _ _ _ (by omega) (by simp [le2])]; rfl
end
section
set_option linter.unusedVariables false
set_option linter.unusedSimpArgs false
set_option maxRecDepth 100000
variable {β:Type}
def zF8 (s:List Int):Int:=zjn 0 0 (s.take 8)
def zGq (s:List Int):Int:=zjn 0 0 ((s.drop 8).take 8)
def bkt (s:List Int) (m1:List Int) (m2:Int→List Int):Int :=
 IntKind.wrap .i64 (Int.tmod (zqu (zF8 s) (zGq s) (m2 (IntKind.wrap .u32 (Int.tmod (zqu (zF8 s) (zGq s) m1) 4)))) 64)
def hbk (s:List Int) (a:Adr) (src:Int):Int:=bkt s ([2]++le4 (w64 (grp a))++le4 (w64 src)) (fun x=>[1]++le4 (w64 src)++le4 (w64 x))
def tbk (s:List Int) (a:Adr):Int:=bkt s ([4]++le4 (w64 a.h)++le2 (w64 a.p)) (fun x=>[3]++le4 (w64 (grp a))++le4 (w64 x))
theorem zDB (n:Int):yl 1 1 [(V.sc (.int .u8 n))]=zaP .u8 [n]:=rfl
theorem zDv (x y:Int):xg [(V.sc (.int .u64 (0:Int))),(V.sc (.int .u64 (0:Int)))] 0 (row .u64 [x,y])=row .u64 [x,y]:=rfl
theorem zAR (x y:Int):List.take 2 (row .u64 [x,y])=row .u64 [x,y]:=rfl
theorem zlv (a:Adr):List.take 3 a.v=a.v:=rfl
theorem zq4 {s:List Int} (h:s.length=32):List.take 32 (row .u8 s)=row .u8 s:=List.take_of_length_le (by rw [zcq,h]; exact Nat.le_refl _)
theorem zKk (L:Nat) (s:List Int) (hs:s.length=32) (a:Adr) (src:Int) (k:Int→Option β):zH β (L+100) (row .u8 s) a.v src k=k (hbk s a src):=by
 simp only [zH,zgL,zq4 hs,zlv,zA,zDB]
 rw [xc (by rw [zcq,hs]; omega),(zzK (β:=β) (L+100) (by omega) s hs _).1,xc ⟨rfl,by omega⟩,zDv,xc (by show 0+2≤2; omega),xc (by show 0+3≤3; omega),zrS,show L+100=(L+90)+10 from rfl,zzz _ _ (by simp),zzz _ _ (by simp [le4]),zAR,zxQ _ _ _ _ (by simp [le4]) (by simp [le4]),zzz _ _ (by simp),zzz _ _ (by simp [le4]),xc (by show 0+2≤2; omega),zxQ _ _ _ _ (by simp [le4]) (by simp [le4])]
 rfl
theorem zIS (L:Nat) (s:List Int) (hs:s.length=32) (a:Adr) (src:Int) (k:Int→Option β):xa β (L+100) (row .u8 s) a.v src k=k (hbk s a src):=by
 simp only [xa,ziJ,zq4 hs,zlv,zA,zDB]
 rw [xc (by rw [zcq,hs]; omega),(zzK (β:=β) (L+100) (by omega) s hs _).2,xc ⟨rfl,by omega⟩,zDv,xc (by show 0+2≤2; omega),xc (by show 0+3≤3; omega),zzk,show L+100=(L+90)+10 from rfl,zvv _ _ (by simp),zvv _ _ (by simp [le4]),zAR,zxU _ _ _ _ (by simp [le4]) (by simp [le4]),xc (by show 0+2≤2; omega),zvv _ _ (by simp),zvv _ _ (by simp [le4]),zxU _ _ _ _ (by simp [le4]) (by simp [le4])]
 rfl
theorem zKA (L:Nat) (s:List Int) (hs:s.length=32) (a:Adr) (k:Int→Option β):yH β (L+100) (row .u8 s) a.v k=k (tbk s a):=by
 simp only [yH,zgR,zq4 hs,zlv,zA,zDB]
 rw [xc (by rw [zcq,hs]; omega),(zzK (β:=β) (L+100) (by omega) s hs _).1,xc ⟨rfl,by omega⟩,zDv,xc (by show 0+2≤2; omega),xI (n:=a.h) rfl,show L+100=(L+90)+10 from rfl,zzz _ _ (by simp),xI (n:=a.p) rfl,zKM _ _ (by simp [le4]),zAR,zxQ _ _ _ _ (by simp [le4,le2]) (by simp [le4,le2]),xc (by show 0+3≤3; omega),zrS,zzz _ _ (by simp),zzz _ _ (by simp [le4]),xc (by show 0+2≤2; omega),zxQ _ _ _ _ (by simp [le4]) (by simp [le4])]
 rfl
theorem zGa (L:Nat) (s:List Int) (hs:s.length=32) (a:Adr) (k:Int→Option β):yf β (L+100) (row .u8 s) a.v k=k (tbk s a):=by
 simp only [yf,ziF,zq4 hs,zlv,zA,zDB]
 rw [xc (by rw [zcq,hs]; omega),(zzK (β:=β) (L+100) (by omega) s hs _).2,xc ⟨rfl,by omega⟩,zDv,xc (by show 0+2≤2; omega),xI (n:=a.h) rfl,show L+100=(L+90)+10 from rfl,zvv _ _ (by simp),xI (n:=a.p) rfl,zKt _ _ (by simp [le4]),zAR,zxU _ _ _ _ (by simp [le4,le2]) (by simp [le4,le2]),xc (by show 0+2≤2; omega),xc (by show 0+3≤3; omega),zzk,zvv _ _ (by simp),zvv _ _ (by simp [le4]),zxU _ _ _ _ (by simp [le4]) (by simp [le4])]
 rfl
end
section
set_option linter.unusedVariables false
set_option linter.unusedSimpArgs false
variable {β:Type}
def xJ (a b:Adr):Bool:=a.h == b.h && a.p == b.p
theorem zFt (L:Nat) (a b:Adr) (k:Bool→Option β):yg β L a.v b.v k=k (xJ a b):=by
 simp only [yg,zrP]
 rw [xI (n:=a.h) rfl,xI (n:=b.h) rfl,zhr]
 by_cases h:a.h=b.h
 ·rw [if_pos h,xI (n:=a.p) rfl,xI (n:=b.p) rfl,xJ,h]
  congr 1
  simp
 ·rw [if_neg h,xJ,beq_eq_false_iff_ne.2 h]; rfl
theorem zCI (L:Nat) (ps:List Plc) (hp:ps.length≤1000000) (a:Adr) (k:Int→Option β):∀ (m i:Nat),i≤ps.length→ps.length - i < m →
  zft yg L k (k (-1)) m (zS ps) (i:Int) a.v=k (zeM (fun e=>xJ e.a a) (ps.drop i) i)
 | 0,i,h1,h2=>by omega
 | m+1,i,h1,h2=>by
  simp only [zft,zl5,zA,zac]
  by_cases h:i < ps.length
  ·have e1:List.take 3 (List.drop 1 ps[i].v)=ps[i].a.v:=rfl
   rw [zaI (by omega),za3 (zcD h),xc (by show 0+3≤3; omega),e1,zlv,zFt,zab (by omega),zCI L ps hp a k m (i+1) (by omega) (by omega),List.drop_eq_getElem_cons h,zeM]
   cases xJ ps[i].a a <;> rfl
  ·rw [za2 (by omega),List.drop_of_length_le (by omega)]; rfl
theorem zBn (L:Nat) (ps:List Plc) (hp:ps.length≤1000000) (hL:ps.length < L) (a:Adr) (k:Int→Option β):yd β L (zS ps) a.v k=k (zeM (fun e=>xJ e.a a) ps 0):=by
 simp only [yd,znX,zrd]
 rw [show ((0:Int))=((0:Nat):Int) from rfl]
 exact zCI L ps hp a k L 0 (by omega) (by omega)
end
section
set_option linter.unusedVariables false
set_option linter.unusedSimpArgs false
variable {β:Type}
def full (l:List Plc) (i:Nat) (v:Int):Bool:=match l[i - 8]? with
 | some e=>decide (8≤i) && e.b == v
 | none=>false
def zld (l:List Plc) (i:Nat) (v:Int):Bool:=match l[i - 1]? with
 | some e=>decide (0 < i) && decide (e.b > v)
 | none=>false
def zo5 (l:List Plc) (i:Nat):Bool:=match l[i]? with
 | some e=>zeM (fun x=>xJ x.a e.a) l 0 == (i:Int)
 | none=>true
def zpq (bk:Plc→Int) (l:List Plc) (i:Nat):Bool:=match l[i]? with
 | some e=>e.b == bk e && !(zld l i (bk e)) && !(full l i (bk e)) && zo5 l i
 | none=>true
def zmj (p:Nat→Bool):Nat→Nat→Bool
 | _,0=>true
 | i,n+1=>p i && zmj p (i+1) n
def zeA (bk:Plc→Int) (l:List Plc):Bool:=decide (l.length≤512) && zmj (zpq bk l) 0 l.length
theorem zI9 (L:Nat) (ps:List Plc) (hp:ps.length≤1000) (hL:ps.length < L) (i:Nat) (h:i < ps.length) (v:Int) (A:Option β) (K:Int→Option β) :
  (ifb (decide ((i:Int) ≥ (8:Int))) (
 lt (IntKind.wrap .i64 ((i:Int) - (8:Int))) fun x11 =>
 idx (zS ps) x11 fun c12 =>
 cI .i64 c12 0 fun v13 =>
 ifb ((v13:Int) == v) A (
 idx (zS ps) (i:Int) fun c14 =>
 yd β L (zS ps) (List.take 3 (List.drop 1 c14)) (fun v15 =>
 ifb ((v15:Int) != (i:Int)) A (
 lt (IntKind.wrap .i64 ((i:Int)+(1:Int))) fun x16 =>
 K x16)))) (
 idx (zS ps) (i:Int) fun c17 =>
 yd β L (zS ps) (List.take 3 (List.drop 1 c17)) (fun v18 =>
 ifb ((v18:Int) != (i:Int)) A (
 lt (IntKind.wrap .i64 ((i:Int)+(1:Int))) fun x19 =>
 K x19))))=ifb (!(full ps i v) && zo5 ps i) (K ((i+1:Nat):Int)) A:=by
 have e1:List.take 3 (List.drop 1 ps[i].v)=ps[i].a.v:=rfl
 have key:(idx (zS ps) (i:Int) fun c17 =>
   yd β L (zS ps) (List.take 3 (List.drop 1 c17)) (fun v18 =>
   ifb ((v18:Int) != (i:Int)) A (
   lt (IntKind.wrap .i64 ((i:Int)+(1:Int))) fun x19=>K x19)))=ifb (zo5 ps i) (K ((i+1:Nat):Int)) A:=by
  rw [za3 (zcD h),e1,zBn L ps (by omega) hL,zA,zab (by omega),zo5,List.getElem?_eq_getElem h]
  simp only
  rw [zq6,zhr]
 rw [key,zaq]
 by_cases h8:8≤i
 ·have g:ps[i - 8]?=some (ps[i - 8]'(by omega)):=List.getElem?_eq_getElem (by omega)
  have e8:IntKind.wrap .i64 ((i:Int) - 8)=((i - 8:Nat):Int):=by rw [zaf (by omega) (by omega)]; omega
  rw [if_pos (by omega),zA,e8,za3 (zcD (by omega)),xI (n:=(ps[i - 8]'(by omega)).b) rfl,full,g]
  simp only
  rw [decide_eq_true h8,Bool.true_and]
  cases ((ps[i - 8]'(by omega)).b == v) <;> rfl
 ·have e:full ps i v=false:=by
   unfold full
   rw [decide_eq_false h8]
   split <;> rfl
  rw [if_neg (by omega),e]
  rfl
theorem zG2 (L:Nat) (ps:List Plc) (hp:ps.length≤1000) (hL:ps.length < L) (i:Nat) (h:i < ps.length) (v:Int) (A:Option β) (K:Int→Option β) :
  (idx (zS ps) (i:Int) fun c6 =>
 cI .i64 c6 0 fun v7 =>
 ifb ((v7:Int) != v) A (
 ifb (decide ((i:Int) > (0:Int))) (
 lt (IntKind.wrap .i64 ((i:Int) - (1:Int))) fun x8 =>
 idx (zS ps) x8 fun c9 =>
 cI .i64 c9 0 fun v10 =>
 ifb (decide (v10 > v)) A (
 ifb (decide ((i:Int) ≥ (8:Int))) (
 lt (IntKind.wrap .i64 ((i:Int) - (8:Int))) fun x11 =>
 idx (zS ps) x11 fun c12 =>
 cI .i64 c12 0 fun v13 =>
 ifb ((v13:Int) == v) A (
 idx (zS ps) (i:Int) fun c14 =>
 yd β L (zS ps) (List.take 3 (List.drop 1 c14)) (fun v15 =>
 ifb ((v15:Int) != (i:Int)) A (
 lt (IntKind.wrap .i64 ((i:Int)+(1:Int))) fun x16 =>
 K x16)))) (
 idx (zS ps) (i:Int) fun c17 =>
 yd β L (zS ps) (List.take 3 (List.drop 1 c17)) (fun v18 =>
 ifb ((v18:Int) != (i:Int)) A (
 lt (IntKind.wrap .i64 ((i:Int)+(1:Int))) fun x19 =>
 K x19))))) (
 ifb (decide ((i:Int) ≥ (8:Int))) (
 lt (IntKind.wrap .i64 ((i:Int) - (8:Int))) fun x11 =>
 idx (zS ps) x11 fun c12 =>
 cI .i64 c12 0 fun v13 =>
 ifb ((v13:Int) == v) A (
 idx (zS ps) (i:Int) fun c14 =>
 yd β L (zS ps) (List.take 3 (List.drop 1 c14)) (fun v15 =>
 ifb ((v15:Int) != (i:Int)) A (
 lt (IntKind.wrap .i64 ((i:Int)+(1:Int))) fun x16 =>
 K x16)))) (
 idx (zS ps) (i:Int) fun c17 =>
 yd β L (zS ps) (List.take 3 (List.drop 1 c17)) (fun v18 =>
 ifb ((v18:Int) != (i:Int)) A (
 lt (IntKind.wrap .i64 ((i:Int)+(1:Int))) fun x19 =>
 K x19))))))=ifb (ps[i].b == v && !(zld ps i v) && !(full ps i v) && zo5 ps i) (K ((i+1:Nat):Int)) A:=by
 rw [zI9 L ps hp hL i h,za3 (zcD h),xI (n:=ps[i].b) rfl,zq6]
 by_cases hb:ps[i].b=v
 ·rw [if_pos hb,hb,beq_self_eq_true,Bool.true_and,zaq]
  by_cases h0:0 < i
  ·have g:ps[i - 1]?=some (ps[i - 1]'(by omega)):=List.getElem?_eq_getElem (by omega)
   have e8:IntKind.wrap .i64 ((i:Int) - 1)=((i - 1:Nat):Int):=by rw [zaf (by omega) (by omega)]; omega
   rw [if_pos (by omega),zA,e8,za3 (zcD (by omega)),xI (n:=(ps[i - 1]'(by omega)).b) rfl,zld,g]
   simp only
   rw [decide_eq_true h0,Bool.true_and]
   cases decide ((ps[i - 1]'(by omega)).b > v) <;> rfl
  ·have e:zld ps i v=false:=by
    unfold zld
    rw [decide_eq_false h0]
    split <;> rfl
   rw [if_neg (by omega),e]
   rfl
 ·rw [if_neg hb,beq_eq_false_iff_ne.2 hb]
  rfl
end
section
set_option linter.unusedVariables false
set_option linter.unusedSimpArgs false
def zaK (v:Int) (l:List Plc):Nat:=(l.filter (fun x=>x.b == v)).length
def okS (bk:Plc→Int) (N:List Adr) (pre:List Plc) (e:Plc):Bool :=
 e.b == bk e && (pre.all (fun x=>decide (x.b≤e.b)) && (decide (zaK e.b pre≤7) && (!(pre.any (fun x=>xJ x.a e.a)) && !(N.any (fun a=>xJ a e.a)))))
def okA (bk:Plc→Int) (N:List Adr):List Plc→List Plc→Bool
 | _,[]=>true
 | pre,e::l=>okS bk N pre e && okA bk N (pre++[e]) l
def Srt (l:List Plc):Prop:=l.Pairwise (fun x y=>x.b≤y.b)
theorem zHr {bk:Plc→Int} {N:List Adr} {pre:List Plc} {e:Plc} (h:okS bk N pre e=true):∀ x ∈ pre,x.b≤e.b:=by
 simp only [okS,Bool.and_eq_true,List.all_eq_true,decide_eq_true_eq] at h
 exact h.2.1
theorem Srt.snoc {pre:List Plc} {e:Plc} (h:Srt pre) (he:∀ x ∈ pre,x.b≤e.b):Srt (pre++[e]):=by
 unfold Srt at *
 rw [List.pairwise_append]
 exact ⟨h,by simp,fun x hx y hy=>by simp at hy; subst hy; exact he x hx⟩
theorem Srt.split:∀ {l:List Plc} (v:Int),Srt l→(∀ x ∈ l,x.b≤v)→∃ A B:List Plc,l=A++B∧(∀ x ∈ A,x.b < v)∧(∀ x ∈ B,x.b=v)
 | [],v,_,_=>⟨[],[],rfl,by simp,by simp⟩
 | x::l,v,h,hv=>by
  have h':=List.pairwise_cons.1 h
  obtain ⟨A,B,rfl,hA,hB⟩:=Srt.split v h'.2 (fun y hy=>hv y (by simp [hy]))
  by_cases hx:x.b < v
  ·exact ⟨x::A,B,rfl,by simpa using ⟨hx,hA⟩,hB⟩
  ·have hxv:x.b=v:=by have:=hv x (by simp); omega
   have:A=[]:=by
    cases A with
    | nil=>rfl
    | cons a A =>
     have h1:=hA a (by simp)
     have h2:=h'.1 a (by simp)
     omega
   subst this
   exact ⟨[],x::B,rfl,by simp,by simpa using ⟨hxv,hB⟩⟩
theorem zFX {A B:List Plc} {v:Int} (hA:∀ x ∈ A,x.b < v) (hB:∀ x ∈ B,x.b=v):zaK v (A++B)=B.length:=by
 unfold zaK
 rw [List.filter_append,List.filter_eq_nil_iff.2 (fun x hx=>by have:=hA x hx; simp; omega),List.filter_eq_self.2 (fun x hx=>by simp [hB x hx])]
 rfl
theorem zEV {l:List Plc} (h:Srt l) (v:Int) (i:Nat) (hi:i < l.length):(l.take i).all (fun x=>decide (x.b≤v))=!(zld l i v):=by
 unfold zld
 cases i with
 | zero=>cases hl:l[0 - 1]? <;> simp
 | succ i =>
  rw [Nat.add_sub_cancel,List.getElem?_eq_getElem (by omega)]
  simp only
  rw [Bool.eq_iff_iff]
  simp only [List.all_eq_true,decide_eq_true_eq,Bool.not_eq_true',Bool.and_eq_false_imp,decide_eq_false_iff_not]
  constructor
  ·intro H _ hgt
   have:=H l[i] (List.mem_take_iff_getElem.2 ⟨i,by omega,rfl⟩)
   omega
  ·intro H x hx
   have H:=H (by omega)
   obtain ⟨j,hj,rfl⟩:=List.mem_take_iff_getElem.1 hx
   by_cases hji:j=i
   ·subst hji; omega
   ·have:=List.pairwise_iff_getElem.1 h j i (by omega) (by omega) (by omega)
    omega
theorem zJE {l:List Plc} {i:Nat} (hi:i < l.length) (v:Int) (h:Srt (l.take i)) (hv:∀ x ∈ l.take i,x.b≤v):full l i v=!(decide (zaK v (l.take i)≤7)):=by
 obtain ⟨A,B,hAB,hA,hB⟩:=h.split v hv
 rw [hAB,zFX hA hB]
 have hlen:i=A.length+B.length:=by
  have:=congrArg List.length hAB
  rw [List.length_take,List.length_append,Nat.min_eq_left (by omega)] at this
  exact this
 unfold full
 rw [List.getElem?_eq_getElem (by omega)]
 simp only
 by_cases h8:8≤i
 ·have e:l[i - 8]'(by omega)=(A++B)[i - 8]'(by rw [List.length_append]; omega):=by
   have:(l.take i)[i - 8]'(by rw [List.length_take]; omega)=l[i - 8]'(by omega):=List.getElem_take
   rw [← this]
   simp only [hAB]
  rw [decide_eq_true h8,Bool.true_and,e]
  by_cases h7:B.length≤7
  ·rw [decide_eq_true h7,List.getElem_append_left (by omega)]
   have:=hA (A[i - 8]'(by omega)) (List.getElem_mem _)
   rw [beq_eq_false_iff_ne.2 (by omega)]; rfl
  ·rw [decide_eq_false h7,List.getElem_append_right (by omega)]
   rw [hB _ (List.getElem_mem _),beq_self_eq_true]; rfl
 ·rw [decide_eq_false h8,Bool.false_and,decide_eq_true (by omega)]; rfl
theorem zuY (a:Adr):xJ a a=true:=by simp [xJ]
theorem zHZ {l:List Plc} {i:Nat} (hi:i < l.length):zo5 l i=!((l.take i).any (fun x=>xJ x.a l[i].a)):=by
 unfold zo5
 rw [List.getElem?_eq_getElem hi]
 simp only
 rcases zpk (fun x:Plc=>xJ x.a l[i].a) l 0 with ⟨h1,h2⟩ | ⟨j,hj,h1,h2,h3⟩
 ·have:=h2 l[i] (List.getElem_mem hi)
  simp only [zuY] at this
  cases this
 ·rw [h1,Nat.zero_add]
  by_cases hij:j=i
  ·subst hij
   rw [beq_self_eq_true]
   have:(l.take j).any (fun x=>xJ x.a l[j].a)=false:=by
    rw [List.any_eq_false]
    intro x hx; rw [h2 x hx]; simp
   rw [this]; rfl
  ·have hlt:j < i:=by
    rcases Nat.lt_or_gt_of_ne hij with h | h
    ·exact h
    ·have:=h2 l[i] (List.mem_take_iff_getElem.2 ⟨i,by omega,rfl⟩)
     simp only [zuY] at this
     cases this
   rw [beq_eq_false_iff_ne.2 (by omega)]
   have:(l.take i).any (fun x=>xJ x.a l[i].a)=true:=List.any_eq_true.2 ⟨l[j],List.mem_take_iff_getElem.2 ⟨j,by omega,rfl⟩,h3⟩
   rw [this]; rfl
theorem zGO (bk:Plc→Int) {l:List Plc} {i:Nat} (hi:i < l.length) (h:Srt (l.take i)):zpq bk l i=okS bk [] (l.take i) l[i]:=by
 unfold zpq okS
 rw [List.getElem?_eq_getElem hi]
 simp only
 by_cases hb:l[i].b=bk l[i]
 ·rw [beq_iff_eq.2 hb,Bool.true_and,Bool.true_and,← hb,zHZ hi]
  have hl:(l.take i).all (fun x=>decide (x.b≤l[i].b))=!(zld (l.take i++[l[i]]) i l[i].b):=by
   by_cases ha:∀ x ∈ l.take i,x.b≤l[i].b
   ·rw [← zEV (h.snoc ha) _ i (by rw [List.length_append,List.length_take]; simp; omega),List.take_left' (by rw [List.length_take]; omega)]
   ·have e1:(l.take i).all (fun x=>decide (x.b≤l[i].b))=false:=by
     rw [Bool.eq_false_iff]
     intro hh
     apply ha
     intro x hx
     have:=List.all_eq_true.1 hh x hx
     simpa using this
    rw [e1]
    have hex:∃ x ∈ l.take i,l[i].b < x.b:=by
     apply Classical.byContradiction
     intro hn
     exact ha (fun x hx=>by
      apply Classical.byContradiction
      intro h2
      exact hn ⟨x,hx,by omega⟩)
    obtain ⟨x,hx,hlt⟩:=hex
    obtain ⟨j,hj,rfl⟩:=List.mem_take_iff_getElem.1 hx
    unfold zld
    rw [List.getElem?_append_left (by rw [List.length_take]; omega),List.getElem?_take_of_lt (by omega),List.getElem?_eq_getElem (by omega)]
    simp only
    have:l[j].b≤(l[i - 1]'(by omega)).b:=by
     by_cases hji:j=i - 1
     ·subst hji; exact Int.le_refl _
     ·have:=List.pairwise_iff_getElem.1 h j (i - 1) (by rw [List.length_take]; omega) (by rw [List.length_take]; omega) (by omega)
      simpa using this
    rw [decide_eq_true (by omega:0 < i),decide_eq_true (by omega)]
    rfl
  have hl2:zld (l.take i++[l[i]]) i l[i].b=zld l i l[i].b:=by
   rw [← List.take_succ_eq_append_getElem hi]
   unfold zld
   by_cases h0:0 < i
   ·rw [List.getElem?_take_of_lt (by omega)]
   ·rw [decide_eq_false h0]
    cases (List.take (i+1) l)[i - 1]? <;> cases l[i - 1]? <;> simp
  rw [hl2] at hl
  rw [hl]
  cases hless:zld l i l[i].b with
  | true=>rfl
  | false =>
   rw [hless] at hl
   have ha:∀ x ∈ l.take i,x.b≤l[i].b:=fun x hx=>by simpa using List.all_eq_true.1 hl x hx
   rw [zJE hi _ h ha]
   simp [Bool.and_assoc]
 ·rw [beq_eq_false_iff_ne.2 hb]; rfl
theorem zAm (bk:Plc→Int) (l:List Plc):∀ (n i:Nat),i+n=l.length→Srt (l.take i)→zmj (zpq bk l) i n=okA bk [] (l.take i) (l.drop i)
 | 0,i,h,hs=>by rw [List.drop_of_length_le (by omega)]; rfl
 | n+1,i,h,hs=>by
  rw [zmj,List.drop_eq_getElem_cons (by omega),okA,zGO bk (by omega) hs]
  cases ho:okS bk [] (l.take i) (l[i]'(by omega)) with
  | false=>rfl
  | true =>
   have hi:i < l.length:=by omega
   rw [Bool.true_and,Bool.true_and,zAm bk l n (i+1) (by omega) (by rw [List.take_succ_eq_append_getElem hi]; exact hs.snoc (zHr ho)),List.take_succ_eq_append_getElem hi]
theorem zqD (bk:Plc→Int) (l:List Plc):zeA bk l=(decide (l.length≤512) && okA bk [] [] l):=by
 unfold zeA
 rw [zAm bk l l.length 0 (by omega) (by simp [Srt])]
 rfl
structure TOk (bk:Plc→Int) (N:List Adr) (l:List Plc):Prop where
 b:∀ e ∈ l,e.b=bk e
 s:Srt l
 c:∀ v,zaK v l≤8
 n:l.Pairwise (fun x y=>xJ x.a y.a=false)
 f:∀ e ∈ l,∀ a ∈ N,xJ a e.a=false
theorem zhE (v:Int) (pre:List Plc) (e:Plc):zaK v (pre++[e])=zaK v pre+if e.b=v then 1 else 0:=by
 unfold zaK
 rw [List.filter_append,List.length_append]
 by_cases h:e.b=v <;> simp [h]
theorem TOk.snoc (bk:Plc→Int) (N:List Adr) (pre:List Plc) (e:Plc):TOk bk N (pre++[e])↔TOk bk N pre∧okS bk N pre e=true:=by
 simp only [okS,Bool.and_eq_true,List.all_eq_true,decide_eq_true_eq,beq_iff_eq,Bool.not_eq_true',List.any_eq_false,Bool.not_eq_true]
 constructor
 ·intro h
  have hs:=List.pairwise_append.1 h.s
  have hn:=List.pairwise_append.1 h.n
  refine ⟨⟨fun x hx=>h.b x (by simp [hx]),hs.1,fun v=>?_,hn.1,fun x hx=>h.f x (by simp [hx])⟩,h.b e (by simp),fun x hx=>hs.2.2 x hx e (by simp),?_,fun x hx=>hn.2.2 x hx e (by simp),h.f e (by simp)⟩
  ·have:=h.c v; rw [zhE] at this; omega
  ·have:=h.c e.b; rw [zhE,if_pos rfl] at this; omega
 ·rintro ⟨h,h1,h2,h3,h4,h5⟩
  refine ⟨?_,h.s.snoc h2,fun v=>?_,?_,?_⟩
  ·intro x hx
   rcases List.mem_append.1 hx with hx | hx
   ·exact h.b x hx
   ·simp at hx; subst hx; exact h1
  ·rw [zhE]
   split
   ·rename_i hv; subst hv; omega
   ·have:=h.c v; omega
  ·rw [List.pairwise_append]
   exact ⟨h.n,by simp,fun x hx y hy=>by simp at hy; subst hy; exact h4 x hx⟩
  ·intro x hx
   rcases List.mem_append.1 hx with hx | hx
   ·exact h.f x hx
   ·simp at hx; subst hx; exact h5
theorem TOk.nil (bk:Plc→Int) (N:List Adr):TOk bk N []:=⟨by simp,List.Pairwise.nil,by simp [zaK],List.Pairwise.nil,by simp⟩
theorem zBX (bk:Plc→Int) (N:List Adr):∀ (l pre:List Plc),TOk bk N pre→(okA bk N pre l=true↔TOk bk N (pre++l))
 | [],pre,h=>by simp [okA,h]
 | e::l,pre,h=>by
  rw [okA,Bool.and_eq_true,show pre++e::l=(pre++[e])++l by simp]
  constructor
  ·rintro ⟨h1,h2⟩
   exact (zBX bk N l (pre++[e]) ((TOk.snoc bk N pre e).2 ⟨h,h1⟩)).1 h2
  ·intro H
   have hp:TOk bk N (pre++[e]):=by
    have hs:=List.pairwise_append.1 H.s
    have hn:=List.pairwise_append.1 H.n
    refine ⟨fun x hx=>H.b x (List.mem_append_left _ hx),hs.1,fun v=>?_,hn.1,fun x hx=>H.f x (List.mem_append_left _ hx)⟩
    have:=H.c v
    unfold zaK at this ⊢
    rw [List.filter_append,List.length_append] at this
    omega
   exact ⟨((TOk.snoc bk N pre e).1 hp).2,(zBX bk N l (pre++[e]) hp).2 H⟩
end
section
set_option linter.unusedVariables false
set_option linter.unusedSimpArgs false
variable {β:Type}
theorem zB6 (bk:Plc→Int) {l:List Plc} {i:Nat} (h:i < l.length):zpq bk l i=(l[i].b == bk l[i] && !(zld l i (bk l[i])) && !(full l i (bk l[i])) && zo5 l i):=by
 unfold zpq; rw [List.getElem?_eq_getElem h]
theorem zF5 (L:Nat) (s:List Int) (hs:s.length=32) (ps:List Plc) (hp:ps.length≤1000) (hL:ps.length < L) (k:Bool→Option β):∀ (m i:Nat),i≤ps.length→ps.length - i < m →
  zbh yf xa yd (L+100) k (k true) m (zS ps) true (i:Int) (row .u8 s)=k (zmj (zpq (fun e=>hbk s e.a e.s) ps) i (ps.length - i)):=by
 intro m
 induction m with
 | zero=>intro i h1 h2; omega
 | succ m IH =>
  intro i h1 h2
  unfold zbh zgs
  rw [zac]
  by_cases h:i < ps.length
  ·have e1:List.take 3 (List.drop 1 ps[i].v)=ps[i].a.v:=rfl
   have ih:=IH (i+1) (by omega) (by omega)
   have e4:ps.length - i=(ps.length - (i+1))+1:=by omega
   rw [zaI (by omega),zq4 hs,xc (by rw [zcq,hs]; omega),za3 (zcD h),e1,zGa L s hs]
   rw [e4,zmj,zB6 _ h]
   rw [zeE,xc (by rw [zcq,hs]; omega),za3 (zcD h),za3 (zcD h),xI (n:=ps[i].s) rfl,e1,zIS L s hs]
   refine (zG2 (L+100) ps hp (by omega) i h _ _ (fun x=>zbh yf xa yd (L+100) k (k true) m (zS ps) true x (row .u8 s))).trans ?_
   rw [ih]
   cases (ps[i].b == hbk s ps[i].a ps[i].s && !(zld ps i (hbk s ps[i].a ps[i].s)) && !(full ps i (hbk s ps[i].a ps[i].s)) && zo5 ps i) <;> rfl
  ·rw [za2 (by omega),show ps.length - i=0 by omega]; rfl
theorem zF2 (L:Nat) (s:List Int) (hs:s.length=32) (ps:List Plc) (hp:ps.length≤1000) (hL:ps.length < L) (k:Bool→Option β):∀ (m i:Nat),i≤ps.length→ps.length - i < m →
  zbh yf xa yd (L+100) k (k true) m (zS ps) false (i:Int) (row .u8 s)=k (zmj (zpq (fun e=>tbk s e.a) ps) i (ps.length - i)):=by
 intro m
 induction m with
 | zero=>intro i h1 h2; omega
 | succ m IH =>
  intro i h1 h2
  unfold zbh zgs
  rw [zac]
  by_cases h:i < ps.length
  ·have e1:List.take 3 (List.drop 1 ps[i].v)=ps[i].a.v:=rfl
   have ih:=IH (i+1) (by omega) (by omega)
   have e4:ps.length - i=(ps.length - (i+1))+1:=by omega
   rw [zaI (by omega),zq4 hs,xc (by rw [zcq,hs]; omega),za3 (zcD h),e1,zGa L s hs]
   rw [e4,zmj,zB6 _ h]
   rw [zaQ]
   refine (zG2 (L+100) ps hp (by omega) i h _ _ (fun x=>zbh yf xa yd (L+100) k (k true) m (zS ps) false x (row .u8 s))).trans ?_
   rw [ih]
   cases (ps[i].b == tbk s ps[i].a && !(zld ps i (tbk s ps[i].a)) && !(full ps i (tbk s ps[i].a)) && zo5 ps i) <;> rfl
  ·rw [za2 (by omega),show ps.length - i=0 by omega]; rfl
theorem zKm (L:Nat) (s:List Int) (hs:s.length=32) (ps:List Plc) (hp:ps.length≤1000) (hL:ps.length < L) (k:Bool→Option β) :
  zp β (L+100) (row .u8 s) (zS ps) true k=k (zeA (fun e=>hbk s e.a e.s) ps):=by
 unfold zp zir zlM zeA
 rw [zac,zaq]
 by_cases h:ps.length≤512
 ·rw [if_neg (by omega),decide_eq_true h,Bool.true_and]
  refine (zF5 L s hs ps hp hL k (L+100) 0 (by omega) (by omega)).trans ?_
  rw [Nat.sub_zero]
 ·rw [if_pos (by omega),decide_eq_false h]; rfl
theorem zKv (L:Nat) (s:List Int) (hs:s.length=32) (ps:List Plc) (hp:ps.length≤1000) (hL:ps.length < L) (k:Bool→Option β) :
  zp β (L+100) (row .u8 s) (zS ps) false k=k (zeA (fun e=>tbk s e.a) ps):=by
 unfold zp zir zlM zeA
 rw [zac,zaq]
 by_cases h:ps.length≤512
 ·rw [if_neg (by omega),decide_eq_true h,Bool.true_and]
  refine (zF2 L s hs ps hp hL k (L+100) 0 (by omega) (by omega)).trans ?_
  rw [Nat.sub_zero]
 ·rw [if_pos (by omega),decide_eq_false h]; rfl
def hbf (s:List Int) (e:Plc):Int:=hbk s e.a e.s
def tbf (s:List Int) (e:Plc):Int:=tbk s e.a
def zq2 (b:Bk):Bool:=zeA (hbf b.salt) b.H && (zeA (tbf b.salt) b.T && b.H.all (fun e=>!(b.T.any (fun x=>xJ x.a e.a))))
theorem zJk (L:Nat) (b:Bk) (hH:b.H.length≤1000) (hT:b.T.length≤1000) (hL:b.T.length < L) (k:Bool→Option β):∀ (m i:Nat),i≤b.H.length→b.H.length - i < m →
  zei zp yd L k (k true) m (i:Int) b.v=k ((b.H.drop i).all (fun e=>!(b.T.any (fun x=>xJ x.a e.a)))):=by
 intro m
 induction m with
 | zero=>intro i h1 h2; omega
 | succ m IH =>
  intro i h1 h2
  unfold zei zkh
  rw [zc6 b.g32,zac]
  by_cases h:i < b.H.length
  ·have e1:List.take 3 (List.drop 1 b.H[i].v)=b.H[i].a.v:=rfl
   rw [zaI (by omega),zc6 b.g33,zc6 b.g32,za3 (zcD h),e1,zBn L b.T (by omega) hL,zFk,List.drop_eq_getElem_cons h,List.all_cons,zA,zab (by omega)]
   have ih:=IH (i+1) (by omega) (by omega)
   cases (b.T.any fun x=>xJ x.a b.H[i].a) with
   | true=>rfl
   | false=>exact ih
  ·rw [za2 (by omega),List.drop_of_length_le (by omega)]; rfl
theorem Bk.t32 (b:Bk):List.take 32 b.v=row .u8 b.salt:=by
 rw [Bk.v,List.take_left' (by rw [zcq,b.hs])]
theorem zHF (L:Nat) (b:Bk) (hH:b.H.length≤1000) (hT:b.T.length≤1000) (hL:1000 < L) (k:Bool→Option β):yv β (L+100) b.v k=k (zq2 b):=by
 unfold yv zlU zp5 zq2
 rw [xc (by rw [b.len]; omega),zc6 b.g32,b.t32,zKm L b.salt b.hs b.H hH (by omega)]
 have eH:zeA (fun e=>hbk b.salt e.a e.s) b.H=zeA (hbf b.salt) b.H:=rfl
 have eT:zeA (fun e=>tbk b.salt e.a) b.T=zeA (tbf b.salt) b.T:=rfl
 rw [eH]
 cases zeA (hbf b.salt) b.H with
 | false=>rfl
 | true =>
  rw [Bool.not_true,zaQ,xc (by rw [b.len]; omega),zc6 b.g33,zKv L b.salt b.hs b.T hT (by omega),eT]
  cases zeA (tbf b.salt) b.T with
  | false=>rfl
  | true =>
   rw [Bool.not_true,zaQ]
   exact zJk (L+100) b hH hT (by omega) k (L+100) 0 (by omega) (by omega)
end
section
set_option linter.unusedVariables false
set_option linter.unusedSimpArgs false
variable {β:Type}
theorem zF0 (n:Int):0≤IntKind.wrap .u64 n∧IntKind.wrap .u64 n≤18446744073709551615:=by
 unfold IntKind.wrap
 simp only [IntKind.signed,Bool.false_and,Bool.false_eq_true,if_false,IntKind.bits]
 have h1:=Int.emod_nonneg n (show (2 ^ 64:Int)≠0 by decide)
 have h2:=Int.emod_lt_of_pos n (show (0:Int) < 2 ^ 64 by decide)
 omega
theorem zCk (s m1:List Int) (m2:Int→List Int):0≤bkt s m1 m2∧bkt s m1 m2 < 64:=by
 unfold bkt
 generalize hx:zqu (zF8 s) (zGq s) (m2 (IntKind.wrap .u32 (Int.tmod (zqu (zF8 s) (zGq s) m1) 4)))=x
 have h0:0≤x:=by
  rw [← hx]; unfold zqu zGp zDs za4; exact (zF0 _).1
 have h1:=Int.tmod_nonneg 64 h0
 have h2:=Int.tmod_lt_of_pos x (show (0:Int) < 64 by decide)
 rw [zaf (by omega) (by omega)]
 exact ⟨h1,h2⟩
theorem zCr (s:List Int) (e:Plc):0≤hbf s e∧hbf s e < 64:=by unfold hbf hbk; exact zCk _ _ _
theorem zCe (s:List Int) (e:Plc):0≤tbf s e∧tbf s e < 64:=by unfold tbf tbk; exact zCk _ _ _
def nmv (a:Adr):V:=.agg [.sc (.int .u32 a.h),.sc (.int .u16 a.p)]
def zcK (N:List Adr):List (V × V):=N.map fun a=>(nmv a,.sc (.bool true))
theorem zEs (a b:Adr):zi0 (nmv a) (nmv b)=some (xJ a b):=by
 simp [zi0,nmv,ziB,xJ]
theorem zik (a b:Adr):xJ a b=xJ b a:=by
 unfold xJ; rw [Bool.beq_comm (a:=a.h),Bool.beq_comm (a:=a.p)]
theorem zyE (a:Adr):∀ N:List Adr,zqO (nmv a) (zcK N)=some (if N.any (fun x=>xJ x a) then some (.sc (.bool true)) else none)
 | []=>rfl
 | x::N=>by
  have ih:=zyE a N
  simp only [zcK,List.map_cons,zqO,zEs,List.any_cons,zik x a] at ih ⊢
  cases xJ a x with
  | true=>rfl
  | false=>simpa using ih
theorem zA1 (a:Adr):∀ N:List Adr,N.any (fun x=>xJ x a)=false→zzu (nmv a) (.sc (.bool true)) (zcK N)=some (zcK (N++[a]))
 | [],_=>rfl
 | x::N,h=>by
  rw [List.any_cons,Bool.or_eq_false_iff,zik] at h
  have ih:=zA1 a N h.2
  simp only [zcK,List.map_cons,zzu,zEs,h.1,List.cons_append] at ih ⊢
  rw [ih]; rfl
theorem zCb (a:Adr) (N:List Adr) (K:Bool→Option β):(mAt 4 (V.agg (List.take 2 [(V.sc (.int .u32 a.h)),(V.sc (.int .u16 a.p))])) (zcK N) fun q=>aB (Option.getD q (V.sc (.bool false))) K)=K (N.any (fun x=>xJ x a)):=by
 have e:V.agg (List.take 2 [(V.sc (.int .u32 a.h)),(V.sc (.int .u16 a.p))])=nmv a:=rfl
 rw [e]
 have h:zhQ 4 (nmv a)=true:=rfl
 simp only [mAt,h,zyE]
 cases N.any (fun x=>xJ x a) <;> rfl
theorem zAy {a:Adr} {N:List Adr} (h:N.any (fun x=>xJ x a)=false) (K:List (V × V)→Option β):zs5 4 (V.agg (List.take 2 [(V.sc (.int .u32 a.h)),(V.sc (.int .u16 a.p))])) (V.sc (.bool true)) (zcK N) K=K (zcK (N++[a])):=by
 have e:V.agg (List.take 2 [(V.sc (.int .u32 a.h)),(V.sc (.int .u16 a.p))])=nmv a:=rfl
 rw [e]
 have h':zhQ 4 (nmv a)=true:=rfl
 simp only [zs5,h',zA1 a N h]
theorem zKG (L:Nat) (b:Bk) (e:Plc) (k:Int→List V→Option β):xh β (L+100) e.v b.v k=k (hbf b.salt e) b.v:=by
 unfold xh zjv
 have e1:List.take 3 (List.drop 1 e.v)=e.a.v:=rfl
 rw [xc (by rw [b.len]; omega),xc (by show 1+3≤5; omega),xI (n:=e.s) rfl,b.t32,e1,zKk L b.salt b.hs]
 rfl
theorem zKI (L:Nat) (b:Bk) (e:Plc) (k:Int→List V→Option β):zi β (L+100) e.v b.v k=k (tbf b.salt e) b.v:=by
 unfold zi zjJ
 have e1:List.take 3 (List.drop 1 e.v)=e.a.v:=rfl
 rw [xc (by rw [b.len]; omega),xc (by show 1+3≤5; omega),b.t32,e1,zKA L b.salt b.hs]
 rfl
theorem zCK {v:Int} {pre:List Plc} (h:∀ x ∈ pre,x.b < v):zaK v pre=0:=by
 unfold zaK
 rw [List.filter_eq_nil_iff.2 (fun x hx=>by have:=h x hx; simp; omega)]; rfl
structure Inv (pre:List Plc) (la ru:Int):Prop where
 le:∀ x ∈ pre,x.b≤la
 ru:ru=(zaK la pre:Nat)
 ex:(la=-1∧pre=[])∨∃ x ∈ pre,x.b=la
 mn:-1≤la
theorem Inv.next {pre:List Plc} {la ru:Int} (h:Inv pre la ru) {e:Plc} (he:la≤e.b):Inv (pre++[e]) e.b ((zaK e.b (pre++[e]):Nat):Int) :=
 ⟨fun x hx=>by
  rcases List.mem_append.1 hx with hx | hx
  ·have:=h.le x hx; omega
  ·simp at hx; subst hx; exact Int.le_refl _,rfl,.inr ⟨e,by simp,rfl⟩,by have:=h.mn; omega⟩
theorem zHy {bk:Plc→Int} {N:List Adr} {pre:List Plc} {la ru:Int} (h:Inv pre la ru) {e:Plc} (hb:0≤bk e) (he:e.b < la):okS bk N pre e=false:=by
 rw [Bool.eq_false_iff]
 intro H
 have h1:=zHr H
 rcases h.ex with ⟨h2,h3⟩ | ⟨x,hx,h2⟩
 ·simp only [okS,Bool.and_eq_true,beq_iff_eq] at H
  omega
 ·have:=h1 x hx; omega
theorem zG7 {bk:Plc→Int} {N:List Adr} {pre:List Plc} {la ru:Int} (h:Inv pre la ru) {e:Plc} (he:la≤e.b):okS bk N pre e=(e.b == bk e && (decide (zaK e.b (pre++[e])≤8) && !((N++pre.map Plc.a).any (fun a=>xJ a e.a)))):=by
 unfold okS
 have h1:pre.all (fun x=>decide (x.b≤e.b))=true:=List.all_eq_true.2 fun x hx=>decide_eq_true (by have:=h.le x hx; omega)
 rw [h1,Bool.true_and,zhE,if_pos rfl,List.any_append,List.any_map,Bool.not_or]
 have e1:decide (zaK e.b pre+1≤8)=decide (zaK e.b pre≤7):=decide_eq_decide.2 (by omega)
 rw [e1]
 congr 2
 rw [Bool.and_comm]; rfl
theorem zGj (L:Nat) (b:Bk) (l:List Plc) (hl:l.length≤1000) (N:List Adr) (kr:Bool→List (V × V)→List V→Option β) (kx:List (V × V)→List V→Option β) (R:Option β) (hr:∀ mp,kr false mp b.v=R):∀ (m i:Nat) (la ru:Int),i≤l.length→l.length - i < m→Inv (l.take i) la ru →
  zb5 xh (L+100) kr kx m la ru (zS l) ((l.length:Nat):Int) (i:Int) (zcK (N++(l.take i).map Plc.a)) b.v=ifb (okA (hbf b.salt) N (l.take i) (l.drop i)) (kx (zcK (N++l.map Plc.a)) b.v) R:=by
 intro m
 induction m with
 | zero=>intro i la ru h1 h2; omega
 | succ m IH =>
  intro i la ru h1 h2 hi
  unfold zb5 zgK
  by_cases h:i < l.length
  ·have e1:List.take 5 l[i].v=l[i].v:=rfl
   have e2:xg [(V.sc (.int .i64 (0:Int))),(V.sc (.int .u32 (0:Int))),(V.sc (.int .u16 (0:Int))),(V.sc (.int .u32 (0:Int))),(V.sc (.int .u32 (0:Int)))] 0 l[i].v=l[i].v:=zda rfl
   have hcl:zaK la (l.take i)≤l.length:=by
    unfold zaK
    exact Nat.le_trans (List.length_filter_le _ _) (by rw [List.length_take]; omega)
   rw [zaI (by omega),za3 (zcD h),e1,xc ⟨rfl,by omega⟩,zA,e2,xI (n:=l[i].b) rfl,zaq,List.drop_eq_getElem_cons h,okA]
   by_cases hlt:l[i].b < la
   ·rw [if_pos hlt,zHy hi (zCr _ _).1 hlt,Bool.false_and,hr]; rfl
   ·rw [if_neg hlt,xI (n:=l[i].b) rfl,xc (by show 0+5≤5; omega),e1,zKG,xc rfl,zq6,zG7 hi (by omega)]
    by_cases hb:l[i].b=hbf b.salt l[i]
    ·have hi':=hi.next (e:=l[i]) (by omega)
     have key:∀ ru':Int,ru'=((zaK l[i].b (l.take i++[l[i]]):Nat):Int) →
       (cI .u32 l[i].v 1 fun v9 =>
        cI .u16 l[i].v 2 fun v10 =>
        lt [(V.sc (.int .u32 v9)),(V.sc (.int .u16 v10))] fun r11 =>
        ifb (decide (ru' > (8:Int))) (
        kr false (zcK (N++(l.take i).map Plc.a)) b.v) (
        chk (0+2≤(List.length r11)) (
        mAt 4 (V.agg (List.take 2 r11)) (zcK (N++(l.take i).map Plc.a)) fun q12 =>
        aB (Option.getD q12 (V.sc (.bool false))) fun v13 =>
        ifb v13 (
        kr false (zcK (N++(l.take i).map Plc.a)) b.v) (
        chk (0+2≤(List.length r11)) (
        zs5 4 (V.agg (List.take 2 r11)) (V.sc (.bool true)) (zcK (N++(l.take i).map Plc.a)) fun m14 =>
        lt (IntKind.wrap .i64 ((i:Int)+(1:Int))) fun x15 =>
        zb5 xh (L+100) kr kx m l[i].b ru' (zS l) ((l.length:Nat):Int) x15 m14 b.v)))))
       = ifb (decide (zaK l[i].b (l.take i++[l[i]])≤8) && !((N++(l.take i).map Plc.a).any (fun a=>xJ a l[i].a)) && okA (hbf b.salt) N (l.take i++[l[i]]) (l.drop (i+1))) (kx (zcK (N++l.map Plc.a)) b.v) R:=by
      intro ru' hru
      rw [xI (n:=l[i].a.h) rfl,xI (n:=l[i].a.p) rfl,zA,zaq]
      by_cases hc:zaK l[i].b (l.take i++[l[i]])≤8
      ·rw [if_neg (by omega),decide_eq_true hc,Bool.true_and,xc (by show 0+2≤2; omega),zCb]
       cases ha:(N++(l.take i).map Plc.a).any (fun a=>xJ a l[i].a) with
       | true=>exact hr _
       | false =>
        rw [zaQ,xc (by show 0+2≤2; omega),zAy ha,zA,zab (by omega)]
        have ih:=IH (i+1) l[i].b ru' (by omega) (by omega) (by rw [List.take_succ_eq_append_getElem h,hru]; exact hi')
        rw [List.take_succ_eq_append_getElem h,List.map_append,List.map_cons,List.map_nil,← List.append_assoc] at ih
        exact ih
      ·rw [if_pos (by omega),decide_eq_false hc,hr]; rfl
     rw [if_pos hb,xI (n:=l[i].b) rfl,zq6,beq_iff_eq.2 hb,Bool.true_and]
     by_cases hll:l[i].b=la
     ·rw [if_pos hll,zA,← hll]
      have e3:IntKind.wrap .i64 (ru+1)=((zaK l[i].b (l.take i++[l[i]]):Nat):Int):=by
       rw [hi.ru,zaf (by omega) (by omega),zhE,if_pos rfl,hll]; omega
      exact key _ e3
     ·rw [if_neg hll,xI (n:=l[i].b) rfl,zA]
      have e3:IntKind.wrap .i64 (((0:Int):Int)+1)=((zaK l[i].b (l.take i++[l[i]]):Nat):Int):=by
       rw [zaf (by omega) (by omega),zhE,if_pos rfl,zCK (fun x hx=>by have:=hi.le x hx; omega)]; rfl
      exact key _ e3
    ·rw [if_neg hb,beq_eq_false_iff_ne.2 hb,hr]; rfl
  ·rw [za2 (by omega),List.drop_of_length_le (by omega),List.take_of_length_le (by omega)]; rfl
theorem zKw (L:Nat) (b:Bk) (l:List Plc) (hl:l.length≤1000) (hL:1000 < L) (N:List Adr) (k:Bool→List (V × V)→List V→Option β) (R:Option β) (hr:∀ mp,k false mp b.v=R) :
  yT β (L+100) (zS l) (zcK N) b.v k=ifb (decide (l.length≤512) && okA (hbf b.salt) N [] l) (k true (zcK (N++l.map Plc.a)) b.v) R:=by
 unfold yT zhN zlZ
 rw [zac,zaq]
 by_cases h:l.length≤512
 ·rw [if_neg (by omega),decide_eq_true h,Bool.true_and,show ((0:Int))=((0:Nat):Int) from rfl]
  have:=zGj L b l hl N (fun p6 b0 b1=>zfa xh (L+100) p6 b0 b1 k) (fun b0 b1=>zfo xh (L+100) b0 b1 k) R (fun mp=>hr mp) (L+100) 0 (-1) 0 (by omega) (by omega) ⟨by simp,rfl,.inl ⟨rfl,rfl⟩,by omega⟩
  rw [List.take_zero,List.drop_zero,List.map_nil,List.append_nil] at this
  exact this
 ·rw [if_pos (by omega),decide_eq_false h,hr]; rfl
theorem zGo (L:Nat) (b:Bk) (l:List Plc) (hl:l.length≤1000) (N:List Adr) (kr:Bool→List (V × V)→List V→Option β) (kx:List (V × V)→List V→Option β) (R:Option β) (hr:∀ mp,kr false mp b.v=R):∀ (m i:Nat) (la ru:Int),i≤l.length→l.length - i < m→Inv (l.take i) la ru →
  zbz zi (L+100) kr kx m la ru (zS l) ((l.length:Nat):Int) (i:Int) (zcK (N++(l.take i).map Plc.a)) b.v=ifb (okA (tbf b.salt) N (l.take i) (l.drop i)) (kx (zcK (N++l.map Plc.a)) b.v) R:=by
 intro m
 induction m with
 | zero=>intro i la ru h1 h2; omega
 | succ m IH =>
  intro i la ru h1 h2 hi
  unfold zbz zfp
  by_cases h:i < l.length
  ·have e1:List.take 5 l[i].v=l[i].v:=rfl
   have e2:xg [(V.sc (.int .i64 (0:Int))),(V.sc (.int .u32 (0:Int))),(V.sc (.int .u16 (0:Int))),(V.sc (.int .u32 (0:Int))),(V.sc (.int .u32 (0:Int)))] 0 l[i].v=l[i].v:=zda rfl
   have hcl:zaK la (l.take i)≤l.length:=by
    unfold zaK
    exact Nat.le_trans (List.length_filter_le _ _) (by rw [List.length_take]; omega)
   rw [zaI (by omega),za3 (zcD h),e1,xc ⟨rfl,by omega⟩,zA,e2,xI (n:=l[i].b) rfl,zaq,List.drop_eq_getElem_cons h,okA]
   by_cases hlt:l[i].b < la
   ·rw [if_pos hlt,zHy hi (zCe _ _).1 hlt,Bool.false_and,hr]; rfl
   ·rw [if_neg hlt,xI (n:=l[i].b) rfl,xc (by show 0+5≤5; omega),e1,zKI,xc rfl,zq6,zG7 hi (by omega)]
    by_cases hb:l[i].b=tbf b.salt l[i]
    ·have hi':=hi.next (e:=l[i]) (by omega)
     have key:∀ ru':Int,ru'=((zaK l[i].b (l.take i++[l[i]]):Nat):Int) →
       (cI .u32 l[i].v 1 fun v9 =>
        cI .u16 l[i].v 2 fun v10 =>
        lt [(V.sc (.int .u32 v9)),(V.sc (.int .u16 v10))] fun r11 =>
        ifb (decide (ru' > (8:Int))) (
        kr false (zcK (N++(l.take i).map Plc.a)) b.v) (
        chk (0+2≤(List.length r11)) (
        mAt 4 (V.agg (List.take 2 r11)) (zcK (N++(l.take i).map Plc.a)) fun q12 =>
        aB (Option.getD q12 (V.sc (.bool false))) fun v13 =>
        ifb v13 (
        kr false (zcK (N++(l.take i).map Plc.a)) b.v) (
        chk (0+2≤(List.length r11)) (
        zs5 4 (V.agg (List.take 2 r11)) (V.sc (.bool true)) (zcK (N++(l.take i).map Plc.a)) fun m14 =>
        lt (IntKind.wrap .i64 ((i:Int)+(1:Int))) fun x15 =>
        zbz zi (L+100) kr kx m l[i].b ru' (zS l) ((l.length:Nat):Int) x15 m14 b.v)))))
       = ifb (decide (zaK l[i].b (l.take i++[l[i]])≤8) && !((N++(l.take i).map Plc.a).any (fun a=>xJ a l[i].a)) && okA (tbf b.salt) N (l.take i++[l[i]]) (l.drop (i+1))) (kx (zcK (N++l.map Plc.a)) b.v) R:=by
      intro ru' hru
      rw [xI (n:=l[i].a.h) rfl,xI (n:=l[i].a.p) rfl,zA,zaq]
      by_cases hc:zaK l[i].b (l.take i++[l[i]])≤8
      ·rw [if_neg (by omega),decide_eq_true hc,Bool.true_and,xc (by show 0+2≤2; omega),zCb]
       cases ha:(N++(l.take i).map Plc.a).any (fun a=>xJ a l[i].a) with
       | true=>exact hr _
       | false =>
        rw [zaQ,xc (by show 0+2≤2; omega),zAy ha,zA,zab (by omega)]
        have ih:=IH (i+1) l[i].b ru' (by omega) (by omega) (by rw [List.take_succ_eq_append_getElem h,hru]; exact hi')
        rw [List.take_succ_eq_append_getElem h,List.map_append,List.map_cons,List.map_nil,← List.append_assoc] at ih
        exact ih
      ·rw [if_pos (by omega),decide_eq_false hc,hr]; rfl
     rw [if_pos hb,xI (n:=l[i].b) rfl,zq6,beq_iff_eq.2 hb,Bool.true_and]
     by_cases hll:l[i].b=la
     ·rw [if_pos hll,zA,← hll]
      have e3:IntKind.wrap .i64 (ru+1)=((zaK l[i].b (l.take i++[l[i]]):Nat):Int):=by
       rw [hi.ru,zaf (by omega) (by omega),zhE,if_pos rfl,hll]; omega
      exact key _ e3
     ·rw [if_neg hll,xI (n:=l[i].b) rfl,zA]
      have e3:IntKind.wrap .i64 (((0:Int):Int)+1)=((zaK l[i].b (l.take i++[l[i]]):Nat):Int):=by
       rw [zaf (by omega) (by omega),zhE,if_pos rfl,zCK (fun x hx=>by have:=hi.le x hx; omega)]; rfl
      exact key _ e3
    ·rw [if_neg hb,beq_eq_false_iff_ne.2 hb,hr]; rfl
  ·rw [za2 (by omega),List.drop_of_length_le (by omega),List.take_of_length_le (by omega)]; rfl
theorem zKu (L:Nat) (b:Bk) (l:List Plc) (hl:l.length≤1000) (hL:1000 < L) (N:List Adr) (k:Bool→List (V × V)→List V→Option β) (R:Option β) (hr:∀ mp,k false mp b.v=R) :
  zO β (L+100) (zS l) (zcK N) b.v k=ifb (decide (l.length≤512) && okA (tbf b.salt) N [] l) (k true (zcK (N++l.map Plc.a)) b.v) R:=by
 unfold zO zgo zkb
 rw [zac,zaq]
 by_cases h:l.length≤512
 ·rw [if_neg (by omega),decide_eq_true h,Bool.true_and,show ((0:Int))=((0:Nat):Int) from rfl]
  have:=zGo L b l hl N (fun p6 b0 b1=>zeq zi (L+100) p6 b0 b1 k) (fun b0 b1=>zeF zi (L+100) b0 b1 k) R (fun mp=>hr mp) (L+100) 0 (-1) 0 (by omega) (by omega) ⟨by simp,rfl,.inl ⟨rfl,rfl⟩,by omega⟩
  rw [List.take_zero,List.drop_zero,List.map_nil,List.append_nil] at this
  exact this
 ·rw [if_pos (by omega),decide_eq_false h,hr]; rfl
def zxT (b:Bk):Bool:=(decide (b.H.length≤512) && okA (hbf b.salt) [] [] b.H) && (decide (b.T.length≤512) && okA (tbf b.salt) (b.H.map Plc.a) [] b.T)
theorem zKb (L:Nat) (b:Bk) (hH:b.H.length≤1000) (hT:b.T.length≤1000) (hL:1000 < L) (k:Bool→Option β):xl β (L+100) b.v k=k (zxT b):=by
 unfold xl zlY zxT
 rw [zc6 b.g32]
 refine (zKw L b b.H hH hL [] _ (k false) (fun mp=>xc rfl _)).trans ?_
 rw [List.nil_append]
 cases (decide (b.H.length≤512) && okA (hbf b.salt) [] [] b.H) with
 | false=>rfl
 | true =>
  rw [zeE,xc rfl,zeE,zc6 b.g33]
  refine (zKu L b b.T hT hL _ _ (k false) (fun mp=>xc rfl _)).trans ?_
  cases (decide (b.T.length≤512) && okA (tbf b.salt) (b.H.map Plc.a) [] b.T) with
  | false=>rfl
  | true=>exact xc rfl _
theorem zKn (bk:Plc→Int) (N:List Adr) (pre:List Plc) (e:Plc):okS bk N pre e=(okS bk [] pre e && !(N.any (fun a=>xJ a e.a))):=by
 unfold okS
 simp [Bool.and_assoc]
theorem zIR (bk:Plc→Int) (N:List Adr):∀ (l pre:List Plc),okA bk N pre l=(okA bk [] pre l && l.all (fun e=>!(N.any (fun a=>xJ a e.a))))
 | [],pre=>rfl
 | e::l,pre=>by
  rw [okA,okA,zKn,zIR bk N l,List.all_cons]
  cases okS bk [] pre e <;> cases (N.any (fun a=>xJ a e.a)) <;> simp
theorem zIk (H T:List Plc):T.all (fun e=>!((H.map Plc.a).any (fun a=>xJ a e.a)))=H.all (fun e=>!(T.any (fun x=>xJ x.a e.a))):=by
 rw [Bool.eq_iff_iff]
 simp only [List.all_eq_true,Bool.not_eq_true',List.any_eq_false,List.mem_map,Bool.not_eq_true,forall_exists_index,and_imp,forall_apply_eq_imp_iff₂]
 constructor
 ·intro h x hx e he; rw [zik]; exact h e he x hx
 ·intro h x hx e he; rw [zik]; exact h e he x hx
theorem zH4 (b:Bk):zxT b=zq2 b:=by
 unfold zxT zq2
 rw [zqD,zqD,zIR (tbf b.salt) (b.H.map Plc.a),zIk]
 simp [Bool.and_assoc]
end
section
set_option linter.unusedVariables false
set_option linter.unusedSimpArgs false
def zah (l:List Plc) (v:Int):Nat:=(l.takeWhile (fun x=>decide (x.b < v))).length
def toN (l:List Plc) (v:Int):Nat:=zah l v+((l.drop (zah l v)).takeWhile (fun x=>x.b == v)).length
def zk5 (l:List Plc) (p:Plc):List Plc:=l.take (toN l p.b)++[p]++l.drop (toN l p.b)
def zf1 (l:List Plc) (i:Nat):List Plc:=l.take i++l.drop (i+1)
def zH2 (t:Int) (e:Plc):Plc:=⟨e.b,⟨e.a.h,e.a.p,zGc e.a.t t⟩,e.s⟩
def zuU (l:List Plc) (i:Nat) (t:Int):List Plc:=l.modify i (zH2 t)
def zwS (l:List Plc) (i:Nat):Int:=match l[i]? with | some e=>e.a.t | none=>0
def zlt (l:List Plc):Nat→Nat→Nat→Nat
 | 0,_,m=>m
 | n+1,i,m=>zlt l n (i+1) (if zwS l i < zwS l m then i else m)
def zkx (b:Bk) (a:Adr) (src:Int):Bk × Bool :=
 if zeM (fun x=>xJ x.a a) b.T 0 ≥ 0 then (⟨b.salt,b.H,zuU b.T (zeM (fun x=>xJ x.a a) b.T 0).toNat a.t,b.hs⟩,false)
 else if zeM (fun x=>xJ x.a a) b.H 0 ≥ 0 then (⟨b.salt,zuU b.H (zeM (fun x=>xJ x.a a) b.H 0).toNat a.t,b.T,b.hs⟩,false)
 else if toN b.H (hbk b.salt a src) - zah b.H (hbk b.salt a src) ≥ 8 then
  (if zwS b.H (zlt b.H (toN b.H (hbk b.salt a src) - zah b.H (hbk b.salt a src)) (zah b.H (hbk b.salt a src)) (zah b.H (hbk b.salt a src))) ≥ a.t then (b,false)
   else (⟨b.salt,zk5 (zf1 b.H (zlt b.H (toN b.H (hbk b.salt a src) - zah b.H (hbk b.salt a src)) (zah b.H (hbk b.salt a src)) (zah b.H (hbk b.salt a src)))) ⟨hbk b.salt a src,a,src⟩,b.T,b.hs⟩,true))
 else (⟨b.salt,zk5 b.H ⟨hbk b.salt a src,a,src⟩,b.T,b.hs⟩,true)
def zfn (b:Bk) (e:Plc):Plc:=⟨tbk b.salt e.a,e.a,e.s⟩
def zuS (b:Bk) (i:Nat) (e:Plc):Bk :=
 if toN b.T (tbk b.salt e.a) - zah b.T (tbk b.salt e.a) ≥ 8 then
  (match b.T[zah b.T (tbk b.salt e.a)]? with
   | some o=>(zkx ⟨b.salt,zf1 b.H i,zk5 (zf1 b.T (zah b.T (tbk b.salt e.a))) (zfn b e),b.hs⟩ o.a (grp o.a)).1
   | none=>b)
 else ⟨b.salt,zf1 b.H i,zk5 b.T (zfn b e),b.hs⟩
theorem Srt.split3 {l:List Plc} (v:Int) (h:Srt l):∃ A B C:List Plc,l=A++(B++C)∧(∀ x ∈ A,x.b < v)∧(∀ x ∈ B,x.b=v)∧(∀ x ∈ C,v < x.b):=by
 induction l with
 | nil=>exact ⟨[],[],[],rfl,by simp,by simp,by simp⟩
 | cons x l ih =>
  have h':=List.pairwise_cons.1 h
  obtain ⟨A,B,C,rfl,hA,hB,hC⟩:=ih h'.2
  by_cases hx:x.b < v
  ·exact ⟨x::A,B,C,rfl,by simpa using ⟨hx,hA⟩,hB,hC⟩
  ·have eA:A=[]:=by
    cases A with
    | nil=>rfl
    | cons a A =>
     have h1:=hA a (by simp)
     have h2:=h'.1 a (by simp)
     omega
   subst eA
   by_cases hxv:x.b=v
   ·exact ⟨[],x::B,C,rfl,by simp,by simpa using ⟨hxv,hB⟩,hC⟩
   ·have eB:B=[]:=by
     cases B with
     | nil=>rfl
     | cons a B =>
      have h1:=hB a (by simp)
      have h2:=h'.1 a (by simp)
      omega
    subst eB
    exact ⟨[],[],x::C,rfl,by simp,by simp,by simpa using ⟨by omega,hC⟩⟩
theorem zu8 {A B C:List Plc} {v:Int} (hA:∀ x ∈ A,x.b < v) (hB:∀ x ∈ B,x.b=v) (hC:∀ x ∈ C,v < x.b):zah (A++(B++C)) v=A.length:=by
 unfold zah
 rw [List.takeWhile_append_of_pos (fun x hx=>decide_eq_true (hA x hx))]
 have:(B++C).takeWhile (fun x=>decide (x.b < v))=[]:=by
  cases B with
  | cons b B=>rw [List.cons_append,List.takeWhile_cons,if_neg (by have:=hB b (by simp); simp; omega)]
  | nil=>cases C with
   | nil=>rfl
   | cons c C=>rw [List.nil_append,List.takeWhile_cons,if_neg (by have:=hC c (by simp); simp; omega)]
 rw [this,List.append_nil]
theorem zzs {A B C:List Plc} {v:Int} (hA:∀ x ∈ A,x.b < v) (hB:∀ x ∈ B,x.b=v) (hC:∀ x ∈ C,v < x.b):toN (A++(B++C)) v=A.length+B.length:=by
 unfold toN
 rw [zu8 hA hB hC,List.drop_left' rfl,List.takeWhile_append_of_pos (fun x hx=>beq_iff_eq.2 (hB x hx))]
 have:C.takeWhile (fun x=>x.b == v)=[]:=by
  cases C with
  | nil=>rfl
  | cons c C=>rw [List.takeWhile_cons,if_neg (by have:=hC c (by simp); simp; omega)]
 rw [this,List.append_nil]
theorem zw7 {A B C:List Plc} {p:Plc} (hA:∀ x ∈ A,x.b < p.b) (hB:∀ x ∈ B,x.b=p.b) (hC:∀ x ∈ C,p.b < x.b):zk5 (A++(B++C)) p=A++(B++(p::C)):=by
 unfold zk5
 rw [zzs hA hB hC,← List.append_assoc,List.take_left' (by simp),List.drop_left' (by simp)]
 simp
theorem ztS {l' l:List Plc} (h:l'.Sublist l) (v:Int):zaK v l'≤zaK v l:=(h.filter _).length_le
theorem TOk.sub {bk:Plc→Int} {N:List Adr} {l l':List Plc} (h:TOk bk N l) (hs:l'.Sublist l):TOk bk N l' :=
 ⟨fun e he=>h.b e (hs.subset he),h.s.sublist hs,fun v=>Nat.le_trans (ztS hs v) (h.c v),h.n.sublist hs,fun e he=>h.f e (hs.subset he)⟩
theorem zeH (l:List Plc) (i:Nat):(zf1 l i).Sublist l:=by
 unfold zf1
 rw [← List.eraseIdx_eq_take_drop_succ]
 exact List.eraseIdx_sublist l i
theorem zt8 {l:List Plc} {p x:Plc} (h:x ∈ zk5 l p):x=p∨x ∈ l:=by
 unfold zk5 at h
 simp only [List.mem_append,List.mem_singleton] at h
 rcases h with (h | h) | h
 ·exact .inr (List.mem_of_mem_take h)
 ·exact .inl h
 ·exact .inr (List.mem_of_mem_drop h)
theorem TOk.ins {bk:Plc→Int} {N:List Adr} {l:List Plc} (h:TOk bk N l) {p:Plc} (hb:p.b=bk p) (hc:zaK p.b l≤7) (hn:∀ x ∈ l,xJ x.a p.a=false) (hf:∀ a ∈ N,xJ a p.a=false):TOk bk N (zk5 l p):=by
 obtain ⟨A,B,C,rfl,hA,hB,hC⟩:=h.s.split3 p.b
 have hs:=h.s
 have hnn:=h.n
 refine ⟨fun e he=>?_,?_,fun v=>?_,?_,fun e he=>?_⟩
 ·rcases zt8 he with rfl | he
  ·exact hb
  ·exact h.b e he
 ·rw [zw7 hA hB hC]
  unfold Srt at hs ⊢
  simp only [List.pairwise_append,List.pairwise_cons,List.mem_append,List.mem_cons] at hs ⊢
  obtain ⟨sA,⟨sB,sC,sBC⟩,sABC⟩:=hs
  refine ⟨sA,⟨sB,⟨fun c hc=>Int.le_of_lt (hC c hc),sC⟩,?_⟩,?_⟩
  ·rintro x hx y (rfl | hy)
   ·rw [hB x hx]; exact Int.le_refl _
   ·exact sBC x hx y hy
  ·rintro x hx y (hy | rfl | hy)
   ·exact sABC x hx y (.inl hy)
   ·exact Int.le_of_lt (hA x hx)
   ·exact sABC x hx y (.inr hy)
 ·have hv:=h.c v
  rw [zw7 hA hB hC]
  have e:zaK v (A++(B++p::C))=zaK v (A++(B++C))+if p.b=v then 1 else 0:=by
   unfold zaK
   simp only [List.filter_append,List.length_append,List.filter_cons,beq_iff_eq]
   split <;> simp <;> omega
  rw [e]
  split
  ·rename_i hp; rw [← hp]; omega
  ·omega
 ·rw [zw7 hA hB hC]
  simp only [List.mem_append] at hn
  simp only [List.pairwise_append,List.pairwise_cons,List.mem_append,List.mem_cons] at hnn ⊢
  obtain ⟨sA,⟨sB,sC,sBC⟩,sABC⟩:=hnn
  refine ⟨sA,⟨sB,⟨fun c hc=>by rw [zik]; exact hn c (.inr (.inr hc)),sC⟩,?_⟩,?_⟩
  ·rintro x hx y (rfl | hy)
   ·exact hn x (.inr (.inl hx))
   ·exact sBC x hx y hy
  ·rintro x hx y (hy | rfl | hy)
   ·exact sABC x hx y (.inl hy)
   ·exact hn x (.inl hx)
   ·exact sABC x hx y (.inr hy)
 ·rcases zt8 he with rfl | he
  ·exact hf
  ·exact h.f e he
theorem zEm {bk:Plc→Int} {N:List Adr} {l:List Plc} (h:TOk bk N l) (v:Int):toN l v - zah l v=zaK v l:=by
 obtain ⟨A,B,C,rfl,hA,hB,hC⟩:=h.s.split3 v
 rw [zzs hA hB hC,zu8 hA hB hC]
 unfold zaK
 rw [List.filter_append,List.filter_append,List.filter_eq_nil_iff.2 (fun x hx=>by have:=hA x hx; simp; omega),List.filter_eq_self.2 (fun x hx=>by simp [hB x hx]),List.filter_eq_nil_iff.2 (fun x hx=>by have:=hC x hx; simp; omega)]
 simp
theorem zxP (l:List Plc) (v:Int):zah l v≤toN l v∧toN l v≤l.length:=by
 unfold toN
 have h1:zah l v≤l.length:=by unfold zah; exact (List.takeWhile_sublist _).length_le
 have h2:=(List.takeWhile_sublist (fun x:Plc=>x.b == v) (l:=l.drop (zah l v))).length_le
 rw [List.length_drop] at h2
 omega
theorem zB7 {bk:Plc→Int} {N:List Adr} {l:List Plc} (h:TOk bk N l) {v:Int} {i:Nat} (h1:zah l v≤i) (h2:i < toN l v) (hi:i < l.length):l[i].b=v:=by
 obtain ⟨A,B,C,rfl,hA,hB,hC⟩:=h.s.split3 v
 rw [zzs hA hB hC] at h2
 rw [zu8 hA hB hC] at h1
 rw [List.getElem_append_right h1,List.getElem_append_left (by omega)]
 exact hB _ (List.getElem_mem _)
theorem zFg {bk:Plc→Int} {N:List Adr} {l:List Plc} (h:TOk bk N l) {i:Nat} (hi:i < l.length):zaK l[i].b (zf1 l i)≤7:=by
 have key:∀ v,l[i].b=v→zaK v l=zaK v (zf1 l i)+1:=by
  intro v hv
  have e:l=l.take i++(l[i]::l.drop (i+1)):=by rw [← List.drop_eq_getElem_cons hi,List.take_append_drop]
  refine (congrArg (zaK v) e).trans ?_
  unfold zaK zf1
  rw [List.filter_append,List.filter_append,List.filter_cons,if_pos (by simp [hv])]
  simp
  omega
 have hc:=h.c l[i].b
 have:=key _ rfl
 omega
def zbT (e:Plc):Int × Int × Int × Int:=(e.b,e.a.h,e.a.p,e.s)
theorem zsT {α β:Type} (f:α→α) (g:α→β) (h:∀ x,g (f x)=g x):∀ (l:List α) (i:Nat),(l.modify i f).map g=l.map g
 | [],i=>by cases i <;> rfl
 | x::l,0=>by simp [List.modify,h]
 | x::l,i+1=>by simpa using zsT f g h l i
theorem zrI (l:List Plc) (i:Nat) (t:Int):(zuU l i t).map zbT=l.map zbT:=zsT (zH2 t) zbT (fun _=>rfl) l i
theorem zCF {x y x' y':Plc} (hx:zbT x=zbT x') (hy:zbT y=zbT y'):xJ x.a y.a=xJ x'.a y'.a:=by
 simp only [zbT,Prod.mk.injEq] at hx hy
 simp only [xJ,hx.2.1,hx.2.2.1,hy.2.1,hy.2.2.1]
theorem zxG {l l':List Plc} (hk:l'.map zbT=l.map zbT) {x:Plc} (hx:x ∈ l'):∃ y ∈ l,zbT y=zbT x:=by
 have:=List.mem_map_of_mem (f:=zbT) hx
 rw [hk] at this
 obtain ⟨y,h1,h2⟩:=List.mem_map.1 this
 exact ⟨y,h1,h2⟩
theorem TOk.key {bk:Plc→Int} (hbk:∀ x y,zbT x=zbT y→bk x=bk y) {l l':List Plc} (h:TOk bk [] l) (hk:l'.map zbT=l.map zbT):TOk bk [] l':=by
 refine ⟨fun e he=>?_,?_,fun v=>?_,?_,by simp⟩
 ·obtain ⟨y,h1,h2⟩:=zxG hk he
  have:=h.b y h1
  rw [← hbk y e h2,← this]
  simp only [zbT,Prod.mk.injEq] at h2
  exact h2.1.symm
 ·have h1:(l.map zbT).Pairwise (fun x y=>x.1≤y.1):=List.pairwise_map.2 h.s
  rw [← hk] at h1
  have h2:l'.Pairwise (fun x y=>(zbT x).1≤(zbT y).1):=(List.pairwise_map (f:=zbT) (R:=fun x y=>x.1≤y.1)).1 h1
  exact h2
 ·have e:∀ m:List Plc,zaK v m=((m.map zbT).filter (fun x=>x.1 == v)).length:=by
   intro m
   unfold zaK
   rw [List.filter_map,List.length_map]
   rfl
  rw [e,hk,← e]; exact h.c v
 ·have h1:(l.map zbT).Pairwise (fun x y=>(x.2.1 == y.2.1 && x.2.2.1 == y.2.2.1)=false):=List.pairwise_map.2 h.n
  rw [← hk] at h1
  have h2:l'.Pairwise (fun x y=>((zbT x).2.1 == (zbT y).2.1 && (zbT x).2.2.1 == (zbT y).2.2.1)=false):=List.pairwise_map.1 h1
  exact h2
theorem zJv (s:List Int) (x y:Plc) (h:zbT x=zbT y):hbf s x=hbf s y:=by
 simp only [zbT,Prod.mk.injEq] at h
 simp only [hbf,hbk,grp,h.2.1,h.2.2.2]
theorem zJM (s:List Int) (x y:Plc) (h:zbT x=zbT y):tbf s x=tbf s y:=by
 simp only [zbT,Prod.mk.injEq] at h
 simp only [tbf,tbk,grp,h.2.1,h.2.2.1]
structure SndB (b:Bk):Prop where
 h:TOk (hbf b.salt) [] b.H
 t:TOk (tbf b.salt) [] b.T
 d:∀ x ∈ b.H,∀ y ∈ b.T,xJ y.a x.a=false
theorem zHk (l:List Plc):∀ (n:Nat) (l:List Plc),(∀ e ∈ l,0≤e.b∧e.b < n)→(∀ v,zaK v l≤8)→l.length≤8 * n
 | 0,l,h,_=>by
  cases l with
  | nil=>simp
  | cons x l=>have:=h x (by simp); omega
 | n+1,l,h,hc=>by
  have ih:=zHk l n (l.filter (fun e=>!(e.b == (n:Int)))) (fun e he=>by
   have h1:=List.mem_filter.1 he
   have h2:=h e h1.1
   have h3:¬ e.b=n:=by simpa using h1.2
   omega) (fun v=>Nat.le_trans (ztS List.filter_sublist v) (hc v))
  have h1:=hc n
  have h2:l.length=(l.filter (fun e=>e.b == (n:Int))).length+(l.filter (fun e=>!(e.b == (n:Int)))).length:=by
   clear ih hc h h1
   induction l with
   | nil=>rfl
   | cons x l ih=>by_cases hx:x.b=n <;> simp [hx] <;> omega
  unfold zaK at h1
  omega
theorem TOk.len {bk:Plc→Int} {N:List Adr} {l:List Plc} (h:TOk bk N l) (hb:∀ e,0≤bk e∧bk e < 64):l.length≤512 :=
 zHk l 64 l (fun e he=>by have:=hb e; rw [h.b e he]; exact this) h.c
theorem SndB.lenH {b:Bk} (h:SndB b):b.H.length≤512:=h.h.len (zCr _)
theorem SndB.lenT {b:Bk} (h:SndB b):b.T.length≤512:=h.t.len (zCe _)
theorem ztC (b:Bk):zq2 b=true↔SndB b:=by
 unfold zq2
 rw [zqD,zqD]
 simp only [Bool.and_eq_true,decide_eq_true_eq,zBX _ _ _ _ (TOk.nil _ _),List.nil_append,List.all_eq_true,Bool.not_eq_true',List.any_eq_false,Bool.not_eq_true]
 constructor
 ·rintro ⟨⟨_,h1⟩,⟨_,h2⟩,h3⟩
  exact ⟨h1,h2,h3⟩
 ·intro h
  exact ⟨⟨h.lenH,h.h⟩,⟨h.lenT,h.t⟩,h.d⟩
theorem zCo {l:List Plc} {a:Adr} (h:¬ zeM (fun x=>xJ x.a a) l 0 ≥ 0):∀ x ∈ l,xJ x.a a=false:=by
 rcases zpk (fun x:Plc=>xJ x.a a) l 0 with ⟨h1,h2⟩ | ⟨j,hj,h1,h2,h3⟩
 ·exact h2
 ·omega
theorem zm3 (l:List Plc) (a z:Nat):∀ (n i m:Nat),a≤i→i+n≤z→a≤m→m < z→a≤zlt l n i m∧zlt l n i m < z
 | 0,i,m,_,_,h1,h2=>⟨h1,h2⟩
 | n+1,i,m,h0,h,h1,h2=>by
  rw [zlt]
  split
  ·exact zm3 l a z n (i+1) i (by omega) (by omega) (by omega) (by omega)
  ·exact zm3 l a z n (i+1) m (by omega) (by omega) h1 h2
theorem zCt {b:Bk} (h:SndB b) (a:Adr) (src:Int):SndB (zkx b a src).1:=by
 unfold zkx
 split
 ·refine ⟨h.h,h.t.key (zJM _) (zrI _ _ _),fun x hx y hy=>?_⟩
  obtain ⟨z,h1,h2⟩:=zxG (zrI _ _ _) hy
  rw [← zCF h2 (rfl:zbT x=zbT x)]
  exact h.d x hx z h1
 ·rename_i hT
  split
  ·refine ⟨h.h.key (zJv _) (zrI _ _ _),h.t,fun x hx y hy=>?_⟩
   obtain ⟨z,h1,h2⟩:=zxG (zrI _ _ _) hx
   rw [← zCF (rfl:zbT y=zbT y) h2]
   exact h.d z h1 y hy
  ·rename_i hH
   have nT:=zCo hT
   have nH:=zCo hH
   have dd:∀ (l':List Plc),l'.Sublist b.H→∀ x ∈ zk5 l' ⟨hbk b.salt a src,a,src⟩,∀ y ∈ b.T,xJ y.a x.a=false:=by
    intro l' hl' x hx y hy
    rcases zt8 hx with rfl | hx
    ·exact nT y hy
    ·exact h.d x (hl'.subset hx) y hy
   split
   ·rename_i h8
    split
    ·exact h
    ·have hr:=zxP b.H (hbk b.salt a src)
     have hm:=zm3 b.H (zah b.H (hbk b.salt a src)) (toN b.H (hbk b.salt a src)) (toN b.H (hbk b.salt a src) - zah b.H (hbk b.salt a src)) (zah b.H (hbk b.salt a src)) (zah b.H (hbk b.salt a src)) (Nat.le_refl _) (by omega) (Nat.le_refl _) (by omega)
     generalize zlt b.H (toN b.H (hbk b.salt a src) - zah b.H (hbk b.salt a src)) (zah b.H (hbk b.salt a src)) (zah b.H (hbk b.salt a src))=m at hm ⊢
     have hml:m < b.H.length:=by omega
     have hc:=zFg h.h hml
     rw [zB7 h.h hm.1 hm.2 hml] at hc
     exact ⟨(h.h.sub (zeH _ _)).ins rfl hc (fun x hx=>nH x ((zeH _ _).subset hx)) (by simp),h.t,dd _ (zeH _ _)⟩
   ·rename_i h8
    rw [zEm h.h] at h8
    exact ⟨h.h.ins rfl (by show zaK (hbk b.salt a src) b.H≤7; omega) nH (by simp),h.t,dd _ (List.Sublist.refl _)⟩
theorem zHv {l:List Plc} (h:l.Pairwise (fun x y=>xJ x.a y.a=false)) {i:Nat} (hi:i < l.length):∀ x ∈ zf1 l i,xJ x.a l[i].a=false:=by
 intro x hx
 have hp:=List.pairwise_iff_getElem.1 h
 unfold zf1 at hx
 rcases List.mem_append.1 hx with hx | hx
 ·obtain ⟨j,hj,rfl⟩:=List.mem_take_iff_getElem.1 hx
  exact hp j i (by omega) hi (by omega)
 ·obtain ⟨j,hj,rfl⟩:=List.mem_drop_iff_getElem.1 hx
  rw [zik]
  exact hp i (i+1+j) hi (by omega) (by omega)
theorem zKr (v:Int) (a:Adr) (s:Int):(⟨v,a,s⟩:Plc).b=v:=rfl
theorem zKz (v:Int) (a:Adr) (s:Int):(⟨v,a,s⟩:Plc).a=a:=rfl
theorem zy9 (b:Bk) (e:Plc):(zfn b e).b=tbk b.salt e.a:=by unfold zfn; exact zKr _ _ _
theorem zry (b:Bk) (e:Plc):(zfn b e).a=e.a:=by unfold zfn; exact zKz _ _ _
theorem zJu (s:List Int) (e:Plc):tbf s e=tbk s e.a:=by unfold tbf; rfl
theorem zG6 {b:Bk} (h:SndB b) {i:Nat} (hi:i < b.H.length):SndB (zuS b i b.H[i]):=by
 have hH:=h.h.sub (zeH b.H i)
 have hn:=zHv h.h.n hi
 have hd:∀ y ∈ b.T,xJ y.a b.H[i].a=false:=fun y hy=>h.d _ (List.getElem_mem hi) y hy
 have dd:∀ (l':List Plc),l'.Sublist b.T→∀ x ∈ zf1 b.H i,∀ y ∈ zk5 l' (zfn b b.H[i]),xJ y.a x.a=false:=by
  intro l' hl' x hx y hy
  rcases zt8 hy with rfl | hy
  ·rw [zik,zry]; exact hn x hx
  ·exact h.d x ((zeH _ _).subset hx) y (hl'.subset hy)
 have hp:(zfn b b.H[i]).b=tbk b.salt b.H[i].a:=zy9 _ _
 have hq:(zfn b b.H[i]).b=tbf b.salt (zfn b b.H[i]):=by rw [hp,zJu,zry]
 unfold zuS
 split
 ·rename_i h8
  have hr:=zxP b.T (tbk b.salt b.H[i].a)
  have hl:zah b.T (tbk b.salt b.H[i].a) < b.T.length:=by omega
  rw [List.getElem?_eq_getElem hl]
  simp only
  refine zCt ⟨hH,?_,dd _ (zeH _ _)⟩ _ _
  have hc:=zFg h.t hl
  rw [zB7 h.t (Nat.le_refl _) (by omega) hl] at hc
  rw [← hp] at hc
  exact (h.t.sub (zeH _ _)).ins hq hc (fun x hx=>by rw [zry]; exact hd x ((zeH _ _).subset hx)) (by simp)
 ·rename_i h8
  rw [zEm h.t,← hp] at h8
  exact ⟨hH,h.t.ins hq (by omega) (fun x hx=>by rw [zry]; exact hd x hx) (by simp),dd _ (List.Sublist.refl _)⟩
def NnB (b:Bk):Prop:=(∀ e ∈ b.H,0≤e.a.h)∧∀ e ∈ b.T,0≤e.a.h
theorem zFc {l:List Plc} (h:∀ e ∈ l,0≤e.a.h) (i:Nat) (t:Int):∀ e ∈ zuU l i t,0≤e.a.h:=by
 intro e he
 obtain ⟨y,h1,h2⟩:=zxG (zrI _ _ _) he
 simp only [zbT,Prod.mk.injEq] at h2
 rw [← h2.2.1]; exact h y h1
theorem zA5 {l:List Plc} (h:∀ e ∈ l,0≤e.a.h) {p:Plc} (hp:0≤p.a.h):∀ e ∈ zk5 l p,0≤e.a.h:=by
 intro e he
 rcases zt8 he with rfl | he
 ·exact hp
 ·exact h e he
theorem zBd {l:List Plc} (h:∀ e ∈ l,0≤e.a.h) (i:Nat):∀ e ∈ zf1 l i,0≤e.a.h:=fun e he=>h e ((zeH _ _).subset he)
theorem zEA {b:Bk} (h:NnB b) {a:Adr} (ha:0≤a.h) (src:Int):NnB (zkx b a src).1:=by
 unfold zkx
 split
 ·exact ⟨h.1,zFc h.2 _ _⟩
 ·split
  ·exact ⟨zFc h.1 _ _,h.2⟩
  ·split
   ·split
    ·exact h
    ·exact ⟨zA5 (zBd h.1 _) ha,h.2⟩
   ·exact ⟨zA5 h.1 ha,h.2⟩
theorem zIF {b:Bk} (h:NnB b) {i:Nat} (hi:i < b.H.length):NnB (zuS b i b.H[i]):=by
 have hp:0≤(zfn b b.H[i]).a.h:=by rw [zry]; exact h.1 _ (List.getElem_mem hi)
 unfold zuS
 split
 ·split
  ·rename_i o ho
   exact zEA ⟨zBd h.1 _,zA5 (zBd h.2 _) hp⟩ (h.2 o (List.mem_of_getElem? ho)) _
  ·exact h
 ·exact ⟨zBd h.1 _,zA5 h.2 hp⟩
end
section
set_option linter.unusedVariables false
set_option linter.unusedSimpArgs false
set_option maxRecDepth 100000
variable {β:Type}
def zbI (l:List Plc):List V:=(zS l).flatten
theorem zGP (l:List Plc):∀ e ∈ zS l,e.length=5:=by
 intro e he
 obtain ⟨x,_,rfl⟩:=List.mem_map.1 he
 rfl
theorem zjy (l:List Plc):(zbI l).length=l.length * 5:=by
 unfold zbI; rw [za5 (zGP l),zac]
theorem zCu (l m:List Plc):zbI (l++m)=zbI l++zbI m:=by simp [zbI,zS]
theorem zyY {l:List Plc} {i:Nat} (hi:i < l.length):zbI l=zbI (l.take i)++(l[i].v++zbI (l.drop (i+1))):=by
 have e:l=l.take i++(l[i]::l.drop (i+1)):=by rw [← List.drop_eq_getElem_cons hi,List.take_append_drop]
 refine (congrArg zbI e).trans ?_
 rw [zCu]
 rfl
theorem zuR {l:List Plc} {i j:Nat} (hi:i < l.length) (hj:j≤5):(zbI l).drop (i * 5+j)=l[i].v.drop j++zbI (l.drop (i+1)):=by
 rw [zyY hi]
 have e:(zbI (l.take i)).length=i * 5:=by rw [zjy,List.length_take]; congr 1; omega
 rw [List.drop_append,e,List.drop_of_length_le (by omega),List.nil_append,show i * 5+j - i * 5=j by omega,List.drop_append_of_le_length (by show j≤5; exact hj)]
theorem zGY {l:List Plc} {i j:Nat} (hi:i < l.length) (hj:j < 5):(zbI l)[i * 5+j]?=l[i].v[j]?:=by
 have:=zuR hi (Nat.le_of_lt hj)
 rw [← List.head?_drop,this,← List.head?_drop]
 rw [List.head?_append]
 cases h:(l[i].v.drop j).head? with
 | some x=>rfl
 | none =>
  rw [List.head?_drop,List.getElem?_eq_none_iff] at h
  have:l[i].v.length=5:=rfl
  omega
theorem zEC {l:List Plc} {i:Nat} (hi:i < l.length):List.take 3 (List.drop (i * 5+1) (zbI l))=l[i].a.v:=by
 rw [zuR hi (by omega)]; rfl
theorem zH5 {l:List Plc} {i:Nat} (hi:i < l.length):List.take 5 (List.drop (i * 5) (zbI l))=l[i].v:=by
 rw [show i * 5=i * 5+0 from rfl,zuR hi (by omega)]; rfl
theorem zG5 (A B x:List V) (j:Nat):xg (A++B) (A.length+j) x=A++xg B j x:=by
 unfold xg
 rw [List.take_length_add_append,Nat.add_assoc,List.drop_length_add_append]
 simp
theorem zCd {l:List Plc} {i:Nat} (hi:i < l.length) (t:Int):xg (zbI l) (i * 5+3) [V.sc (.int .u32 (zGc l[i].a.t t))]=zbI (zuU l i t):=by
 have e:(zbI (l.take i)).length=i * 5:=by rw [zjy,List.length_take]; congr 1; omega
 have eb:zuU l i t=l.take i++(zH2 t l[i]::l.drop (i+1)):=by
  unfold zuU
  rw [List.modify_eq_take_cons_drop hi]
 rw [eb,zCu,zyY hi,← e,zG5]
 rfl
theorem zew (l:List Plc):yl 5 l.length (zbI l)=zS l:=by
 have:=zxE (zGP l) (w:=l.length) (by rw [zac]; exact Nat.le_refl _)
 unfold zbI
 rw [this,List.take_of_length_le (by rw [zac]; exact Nat.le_refl _)]
theorem zD5 (l:List Plc) (i:Nat) (t:Int):(zuU l i t).length=l.length:=by unfold zuU; simp
theorem zEz {n:Nat} {l:List Plc} (h:n=l.length):yl 5 n (zbI l)=zS l:=by subst h; exact zew l
theorem zth (l:List Plc):(zbI l).isEmpty=l.isEmpty:=by
 cases l <;> rfl
theorem zIa (L:Nat) (l:List Plc) (hl:l.length≤1000000) (v:Int) (kx:List (List V)→Int→Int→Option β):∀ (m i:Nat),i≤l.length→l.length - i < m →
  zeo L kx m (zS l) v (i:Int)=kx (zS l) v ((i+((l.drop i).takeWhile (fun x=>decide (x.b < v))).length:Nat):Int):=by
 intro m
 induction m with
 | zero=>intro i h1 h2; omega
 | succ m IH =>
  intro i h1 h2
  unfold zeo zj3
  rw [zac]
  by_cases h:i < l.length
  ·rw [zaI (by omega),za3 (zcD h),xI (n:=l[i].b) rfl,zaq,List.drop_eq_getElem_cons h,List.takeWhile_cons]
   by_cases hb:l[i].b < v
   ·rw [if_pos hb,if_pos (decide_eq_true hb),zA,zab (by omega),List.length_cons]
    refine (IH (i+1) (by omega) (by omega)).trans ?_
    congr 2; omega
   ·rw [if_neg hb,if_neg (by simpa using hb)]; rfl
  ·rw [za2 (by omega),List.drop_of_length_le (by omega)]; rfl
theorem zJY (L:Nat) (l:List Plc) (hl:l.length≤1000000) (v f:Int) (kx:Int→Int→Option β):∀ (m i:Nat),i≤l.length→l.length - i < m →
  zds L kx m (zS l) v f (i:Int)=kx f ((i+((l.drop i).takeWhile (fun x=>x.b == v)).length:Nat):Int):=by
 intro m
 induction m with
 | zero=>intro i h1 h2; omega
 | succ m IH =>
  intro i h1 h2
  unfold zds zhZ
  rw [zac]
  by_cases h:i < l.length
  ·rw [zaI (by omega),za3 (zcD h),xI (n:=l[i].b) rfl,zhr,List.drop_eq_getElem_cons h,List.takeWhile_cons]
   by_cases hb:l[i].b=v
   ·rw [if_pos hb,if_pos (beq_iff_eq.2 hb),zA,zab (by omega),List.length_cons]
    refine (IH (i+1) (by omega) (by omega)).trans ?_
    congr 2; omega
   ·rw [if_neg hb,if_neg (by simpa using hb)]; rfl
  ·rw [za2 (by omega),List.drop_of_length_le (by omega)]; rfl
theorem zpG (L:Nat) (l:List Plc) (hl:l.length≤1000000) (hL:l.length < L) (v:Int) (k:Int→Int→Option β):xe β L (zS l) v k=k ((zah l v:Nat):Int) ((toN l v:Nat):Int):=by
 have hf:=zxP l v
 unfold xe zkw zoB
 rw [show ((0:Int))=((0:Nat):Int) from rfl]
 refine (zIa L l hl v _ L 0 (by omega) (by omega)).trans ?_
 rw [List.drop_zero,Nat.zero_add]
 refine (zJY L l hl v _ _ L (zah l v) (by omega) (by omega)).trans ?_
 rfl
theorem zzA {n m:Nat} (h:n≤1000000) (hm:m≤1000000):(n+m) * 24≤zs∧n+m≤zs:=by
 simp only [zs]; omega
theorem zsw (l:List Plc) (i:Nat):(zS l).take i=zS (l.take i):=by simp [zS,List.map_take]
theorem zCx (l:List Plc) (i:Nat):(zS l).drop i=zS (l.drop i):=by simp [zS,List.map_drop]
theorem zJd (p:Plc):yl 5 1 (xg [(V.sc (.int .i64 (0:Int))),(V.sc (.int .u32 (0:Int))),(V.sc (.int .u16 (0:Int))),(V.sc (.int .u32 (0:Int))),(V.sc (.int .u32 (0:Int)))] 0 p.v)=zS [p]:=by
 rw [zda (by rfl)]; rfl
theorem zB9 (l:List Plc) (i:Nat):List.take (l.length - i) (List.drop i l)=List.drop i l:=List.take_of_length_le (by simp)
theorem zmB (L:Nat) (l:List Plc) (hl:l.length≤900000) (hL:l.length < L) (p:Plc) (k:List (List V)→Option β):ze β L (zS l) p.v k=k (zS (zk5 l p)):=by
 have hf:=zxP l p.b
 have e1:List.take 5 p.v=p.v:=rfl
 unfold ze zoP
 rw [xI (n:=p.b) rfl,zpG L l (by omega) hL,zac,xc (by omega),Nat.sub_zero,Int.toNat_natCast,List.drop_zero,zsw,zac,xc (zzA (by simp) (by simp; omega)),zA,List.nil_append,xc (by show 0+5≤5; omega),e1,xc ⟨rfl,by omega⟩,zJd,zac,zac,xc (zzA (by simp; omega) (by simp)),zA,zzf,xc (by omega),zCx,zsw,zac,zac,xc (zzA (by simp; omega) (by simp; omega)),zA,zzf,zB9]
 rfl
theorem zxc (L:Nat) (l:List Plc) (hl:l.length≤900000) (i:Nat) (hi:i < l.length) (k:List (List V)→Option β):zf β L (zS l) (i:Int) k=k (zS (zf1 l i)):=by
 unfold zf zox
 rw [zac,xc (by omega),Nat.sub_zero,Int.toNat_natCast,List.drop_zero,zsw,zac,xc (zzA (by simp) (by simp; omega)),zA,List.nil_append,zA,zab (by omega),xc (by omega),Int.toNat_natCast,zCx,zsw,zac,zac,xc (zzA (by simp; omega) (by simp; omega)),zA,zzf,zB9]
 rfl
theorem zGi (L:Nat) (ps:List Plc) (hp:ps.length≤1000000) (a:Adr) (kr:Int→List V→Option β) (kx:List V→Option β) (k:Int→List V→Option β) (hr:∀ i b,kr i b=k i b) (hx:∀ b,kx b=k (-1) b):∀ (m i:Nat),i≤ps.length→ps.length - i < m →
  zej yg L kr kx m ps.length (i:Int) (zbI ps) a.v=k (zeM (fun e=>xJ e.a a) (ps.drop i) i) (zbI ps):=by
 intro m
 induction m with
 | zero=>intro i h1 h2; omega
 | succ m IH =>
  intro i h1 h2
  unfold zej zjO
  by_cases h:i < ps.length
  ·have e1:0+Int.toNat (i:Int) * 5+1=i * 5+1:=by rw [Int.toNat_natCast]; omega
   rw [zaI (by omega),xc (by omega),e1,xc (by rw [zjy]; omega),xc (by show 0+3≤3; omega),zEC h,zlv,zFt,List.drop_eq_getElem_cons h,zeM,zA,zab (by omega)]
   have ih:=IH (i+1) (by omega) (by omega)
   cases xJ ps[i].a a with
   | true=>exact hr _ _
   | false=>exact ih
  ·rw [za2 (by omega),List.drop_of_length_le (by omega),hx]; rfl
theorem zEF (L:Nat) (ps:List Plc) (hp:ps.length≤1000000) (hL:ps.length < L) (a:Adr) (k:Int→List V→Option β):yh β L ps.length a.v (zbI ps) k=k (zeM (fun e=>xJ e.a a) ps 0) (zbI ps):=by
 unfold yh zkH zoG
 rw [show ((0:Int))=((0:Nat):Int) from rfl]
 refine (zGi L ps hp a _ _ k (fun _ _=>rfl) (fun _=>rfl) L 0 (by omega) (by omega)).trans ?_
 rfl
theorem y5 (b:Bk) (j:Nat) (h:j < 32) (k:Int→Option β):cI .u8 b.v j k=k (b.salt.getD j 0):=by
 refine xI ?_ k
 have hs:=b.hs
 rw [Bk.v,List.getElem?_append_left (by rw [zcq]; omega),row,List.getElem?_map,List.getD_eq_getElem?_getD,List.getElem?_eq_getElem (by omega)]
 rfl
theorem zIb:∀ (s:List Int),s.length=32→row .u8 s=[V.sc (.int .u8 (s.getD 0 0)),V.sc (.int .u8 (s.getD 1 0)),V.sc (.int .u8 (s.getD 2 0)),V.sc (.int .u8 (s.getD 3 0)),V.sc (.int .u8 (s.getD 4 0)),V.sc (.int .u8 (s.getD 5 0)),V.sc (.int .u8 (s.getD 6 0)),V.sc (.int .u8 (s.getD 7 0)),V.sc (.int .u8 (s.getD 8 0)),V.sc (.int .u8 (s.getD 9 0)),V.sc (.int .u8 (s.getD 10 0)),V.sc (.int .u8 (s.getD 11 0)),V.sc (.int .u8 (s.getD 12 0)),V.sc (.int .u8 (s.getD 13 0)),V.sc (.int .u8 (s.getD 14 0)),V.sc (.int .u8 (s.getD 15 0)),V.sc (.int .u8 (s.getD 16 0)),V.sc (.int .u8 (s.getD 17 0)),V.sc (.int .u8 (s.getD 18 0)),V.sc (.int .u8 (s.getD 19 0)),V.sc (.int .u8 (s.getD 20 0)),V.sc (.int .u8 (s.getD 21 0)),V.sc (.int .u8 (s.getD 22 0)),V.sc (.int .u8 (s.getD 23 0)),V.sc (.int .u8 (s.getD 24 0)),V.sc (.int .u8 (s.getD 25 0)),V.sc (.int .u8 (s.getD 26 0)),V.sc (.int .u8 (s.getD 27 0)),V.sc (.int .u8 (s.getD 28 0)),V.sc (.int .u8 (s.getD 29 0)),V.sc (.int .u8 (s.getD 30 0)),V.sc (.int .u8 (s.getD 31 0))]
 | [x0,x1,x2,x3,x4,x5,x6,x7,x8,x9,x10,x11,x12,x13,x14,x15,x16,x17,x18,x19,x20,x21,x22,x23,x24,x25,x26,x27,x28,x29,x30,x31],_=>rfl
theorem Bk.cells (b:Bk):[V.sc (.int .u8 (b.salt.getD 0 0)),V.sc (.int .u8 (b.salt.getD 1 0)),V.sc (.int .u8 (b.salt.getD 2 0)),V.sc (.int .u8 (b.salt.getD 3 0)),V.sc (.int .u8 (b.salt.getD 4 0)),V.sc (.int .u8 (b.salt.getD 5 0)),V.sc (.int .u8 (b.salt.getD 6 0)),V.sc (.int .u8 (b.salt.getD 7 0)),V.sc (.int .u8 (b.salt.getD 8 0)),V.sc (.int .u8 (b.salt.getD 9 0)),V.sc (.int .u8 (b.salt.getD 10 0)),V.sc (.int .u8 (b.salt.getD 11 0)),V.sc (.int .u8 (b.salt.getD 12 0)),V.sc (.int .u8 (b.salt.getD 13 0)),V.sc (.int .u8 (b.salt.getD 14 0)),V.sc (.int .u8 (b.salt.getD 15 0)),V.sc (.int .u8 (b.salt.getD 16 0)),V.sc (.int .u8 (b.salt.getD 17 0)),V.sc (.int .u8 (b.salt.getD 18 0)),V.sc (.int .u8 (b.salt.getD 19 0)),V.sc (.int .u8 (b.salt.getD 20 0)),V.sc (.int .u8 (b.salt.getD 21 0)),V.sc (.int .u8 (b.salt.getD 22 0)),V.sc (.int .u8 (b.salt.getD 23 0)),V.sc (.int .u8 (b.salt.getD 24 0)),V.sc (.int .u8 (b.salt.getD 25 0)),V.sc (.int .u8 (b.salt.getD 26 0)),V.sc (.int .u8 (b.salt.getD 27 0)),V.sc (.int .u8 (b.salt.getD 28 0)),V.sc (.int .u8 (b.salt.getD 29 0)),V.sc (.int .u8 (b.salt.getD 30 0)),V.sc (.int .u8 (b.salt.getD 31 0))]=row .u8 b.salt:=(zIb b.salt b.hs).symm
theorem Bk.mk_v (b:Bk) (x y:List (List V)):[V.sc (.int .u8 (b.salt.getD 0 0)),V.sc (.int .u8 (b.salt.getD 1 0)),V.sc (.int .u8 (b.salt.getD 2 0)),V.sc (.int .u8 (b.salt.getD 3 0)),V.sc (.int .u8 (b.salt.getD 4 0)),V.sc (.int .u8 (b.salt.getD 5 0)),V.sc (.int .u8 (b.salt.getD 6 0)),V.sc (.int .u8 (b.salt.getD 7 0)),V.sc (.int .u8 (b.salt.getD 8 0)),V.sc (.int .u8 (b.salt.getD 9 0)),V.sc (.int .u8 (b.salt.getD 10 0)),V.sc (.int .u8 (b.salt.getD 11 0)),V.sc (.int .u8 (b.salt.getD 12 0)),V.sc (.int .u8 (b.salt.getD 13 0)),V.sc (.int .u8 (b.salt.getD 14 0)),V.sc (.int .u8 (b.salt.getD 15 0)),V.sc (.int .u8 (b.salt.getD 16 0)),V.sc (.int .u8 (b.salt.getD 17 0)),V.sc (.int .u8 (b.salt.getD 18 0)),V.sc (.int .u8 (b.salt.getD 19 0)),V.sc (.int .u8 (b.salt.getD 20 0)),V.sc (.int .u8 (b.salt.getD 21 0)),V.sc (.int .u8 (b.salt.getD 22 0)),V.sc (.int .u8 (b.salt.getD 23 0)),V.sc (.int .u8 (b.salt.getD 24 0)),V.sc (.int .u8 (b.salt.getD 25 0)),V.sc (.int .u8 (b.salt.getD 26 0)),V.sc (.int .u8 (b.salt.getD 27 0)),V.sc (.int .u8 (b.salt.getD 28 0)),V.sc (.int .u8 (b.salt.getD 29 0)),V.sc (.int .u8 (b.salt.getD 30 0)),V.sc (.int .u8 (b.salt.getD 31 0)),(V.sl 5 x),(V.sl 5 y)]=row .u8 b.salt++[.sl 5 x,.sl 5 y]:=by
 rw [← b.cells]; rfl
theorem zCc (L:Nat) (b:Bk) (hH:b.H.length≤1000000) (hT:b.T.length≤1000000) (k:zkV β):zg β L b.v k=k (b.salt.getD 0 0) (b.salt.getD 1 0) (b.salt.getD 2 0) (b.salt.getD 3 0) (b.salt.getD 4 0) (b.salt.getD 5 0) (b.salt.getD 6 0) (b.salt.getD 7 0) (b.salt.getD 8 0) (b.salt.getD 9 0) (b.salt.getD 10 0) (b.salt.getD 11 0) (b.salt.getD 12 0) (b.salt.getD 13 0) (b.salt.getD 14 0) (b.salt.getD 15 0) (b.salt.getD 16 0) (b.salt.getD 17 0) (b.salt.getD 18 0) (b.salt.getD 19 0) (b.salt.getD 20 0) (b.salt.getD 21 0) (b.salt.getD 22 0) (b.salt.getD 23 0) (b.salt.getD 24 0) (b.salt.getD 25 0) (b.salt.getD 26 0) (b.salt.getD 27 0) (b.salt.getD 28 0) (b.salt.getD 29 0) (b.salt.getD 30 0) (b.salt.getD 31 0) b.H.length b.T.length (zbI b.H) (zbI b.T):=by
 unfold zg zoQ
 rw [xc b.len,y5 b 0 (by omega),y5 b 1 (by omega),y5 b 2 (by omega),y5 b 3 (by omega),y5 b 4 (by omega),y5 b 5 (by omega),y5 b 6 (by omega),y5 b 7 (by omega),y5 b 8 (by omega),y5 b 9 (by omega),y5 b 10 (by omega),y5 b 11 (by omega),y5 b 12 (by omega),y5 b 13 (by omega),y5 b 14 (by omega),y5 b 15 (by omega),y5 b 16 (by omega),y5 b 17 (by omega),y5 b 18 (by omega),y5 b 19 (by omega),y5 b 20 (by omega),y5 b 21 (by omega),y5 b 22 (by omega),y5 b 23 (by omega),y5 b 24 (by omega),y5 b 25 (by omega),y5 b 26 (by omega),y5 b 27 (by omega),y5 b 28 (by omega),y5 b 29 (by omega),y5 b 30 (by omega),y5 b 31 (by omega)]
 have g1:∀ k:List (List V)→Option β,cL 5 b.v 32 k=k (zS b.H):=zxR b.g32
 have g2:∀ k:List (List V)→Option β,cL 5 b.v 33 k=k (zS b.T):=zxR b.g33
 rw [g1,g2,zac,zac,xc (zzA (by simp) hH),xc (zzA (by simp) hT)]
 rfl
end
section
set_option linter.unusedVariables false
set_option linter.unusedSimpArgs false
set_option maxRecDepth 100000
variable {β:Type}
theorem zzb {l:List Plc} {a:Adr} (h:zeM (fun x=>xJ x.a a) l 0 ≥ 0):∃ j:Nat,j < l.length∧zeM (fun x=>xJ x.a a) l 0=(j:Int):=by
 rcases zpk (fun x:Plc=>xJ x.a a) l 0 with ⟨h1,h2⟩ | ⟨j,hj,h1,h2,h3⟩
 ·omega
 ·exact ⟨j,hj,by rw [h1,Nat.zero_add]⟩
theorem at3 (j:Nat):0+Int.toNat (j:Int) * 5+1+2=j * 5+3:=by rw [Int.toNat_natCast]; omega
theorem cT {l:List Plc} {j:Nat} (h:j < l.length) (k:Int→Option β):cI .u32 (zbI l) (j * 5+3) k=k l[j].a.t:=by
 refine xI ?_ k
 rw [zGY h (by omega)]; rfl
theorem zxk {l:List Plc} {j:Nat} (h:j < l.length):zwS l j=l[j].a.t:=by
 unfold zwS; rw [List.getElem?_eq_getElem h]
theorem zKN (v:Int) (a:Adr) (s:Int):xg [(V.sc (.int .i64 (0:Int))),(V.sc (.int .u32 (0:Int))),(V.sc (.int .u16 (0:Int))),(V.sc (.int .u32 (0:Int))),(V.sc (.int .u32 (0:Int)))] 0 (xg (xg [(V.sc (.int .i64 v)),(V.sc (.int .u32 (0:Int))),(V.sc (.int .u16 (0:Int))),(V.sc (.int .u32 (0:Int))),(V.sc (.int .u32 (0:Int)))] 1 a.v) 4 [(V.sc (.int .u32 s))])=(⟨v,a,s⟩:Plc).v:=rfl
theorem zt5 (p:Plc):List.take 5 p.v=p.v:=rfl
theorem zFO (L:Nat) (b:Bk) (hH:b.H.length≤1000000) (z:Nat) (hz:z≤b.H.length) (b4 p:List V) (tl:Nat) (tf:List V) (kx:zme β):∀ (m i c:Nat),i≤z→z - i < m→c < b.H.length →
  zbQ zg yh xa xe ze zf L kx m (z:Int) (c:Int) (i:Int) b4 0 0 0 0 0 0 0 0 0 0 0 0 0 0 0 0 0 0 0 0 0 0 0 0 0 0 0 0 0 0 0 0 [] [] (b.salt.getD 0 0) (b.salt.getD 1 0) (b.salt.getD 2 0) (b.salt.getD 3 0) (b.salt.getD 4 0) (b.salt.getD 5 0) (b.salt.getD 6 0) (b.salt.getD 7 0) (b.salt.getD 8 0) (b.salt.getD 9 0) (b.salt.getD 10 0) (b.salt.getD 11 0) (b.salt.getD 12 0) (b.salt.getD 13 0) (b.salt.getD 14 0) (b.salt.getD 15 0) (b.salt.getD 16 0) (b.salt.getD 17 0) (b.salt.getD 18 0) (b.salt.getD 19 0) (b.salt.getD 20 0) (b.salt.getD 21 0) (b.salt.getD 22 0) (b.salt.getD 23 0) (b.salt.getD 24 0) (b.salt.getD 25 0) (b.salt.getD 26 0) (b.salt.getD 27 0) (b.salt.getD 28 0) (b.salt.getD 29 0) (b.salt.getD 30 0) (b.salt.getD 31 0) b.H.length tl p (zbI b.H) tf
   = kx ((zlt b.H (z - i) i c:Nat):Int) b4 0 0 0 0 0 0 0 0 0 0 0 0 0 0 0 0 0 0 0 0 0 0 0 0 0 0 0 0 0 0 0 0 [] [] (b.salt.getD 0 0) (b.salt.getD 1 0) (b.salt.getD 2 0) (b.salt.getD 3 0) (b.salt.getD 4 0) (b.salt.getD 5 0) (b.salt.getD 6 0) (b.salt.getD 7 0) (b.salt.getD 8 0) (b.salt.getD 9 0) (b.salt.getD 10 0) (b.salt.getD 11 0) (b.salt.getD 12 0) (b.salt.getD 13 0) (b.salt.getD 14 0) (b.salt.getD 15 0) (b.salt.getD 16 0) (b.salt.getD 17 0) (b.salt.getD 18 0) (b.salt.getD 19 0) (b.salt.getD 20 0) (b.salt.getD 21 0) (b.salt.getD 22 0) (b.salt.getD 23 0) (b.salt.getD 24 0) (b.salt.getD 25 0) (b.salt.getD 26 0) (b.salt.getD 27 0) (b.salt.getD 28 0) (b.salt.getD 29 0) (b.salt.getD 30 0) (b.salt.getD 31 0) b.H.length tl p (zbI b.H) tf:=by
 intro m
 induction m with
 | zero=>intro i c h1 h2 h3; omega
 | succ m IH =>
  intro i c h1 h2 h3
  unfold zbQ zep
  by_cases h:i < z
  ·have hi:i < b.H.length:=by omega
   rw [zaI (by omega),xc (by omega),at3,cT hi,xc (by omega),at3,cT h3,zaq,show z - i=(z - (i+1))+1 by omega,zlt,zxk hi,zxk h3]
   by_cases ht:b.H[i].a.t < b.H[c].a.t
   ·rw [if_pos ht,if_pos ht,zA,zab (by omega)]
    exact IH (i+1) i (by omega) (by omega) hi
   ·rw [if_neg ht,if_neg ht,zA,zab (by omega)]
    exact IH (i+1) c (by omega) (by omega) h3
  ·rw [za2 (by omega),show z - i=0 by omega]; rfl
theorem Bk.v_mk (b:Bk) (H T:List Plc):row .u8 b.salt++[V.sl 5 (zS H),V.sl 5 (zS T)]=(⟨b.salt,H,T,b.hs⟩:Bk).v:=rfl
theorem zFv (L:Nat) (hL:200000 < L) (b:Bk) (hH:b.H.length≤100000) (hT:b.T.length≤100000) (a:Adr) (src:Int) (k:List V→Bool→Option β):zB β (L+100) b.v a.v src k=k (zkx b a src).1.v (zkx b a src).2:=by
 unfold zB znc zrE
 rw [xc (by rw [b.len]; omega),b.take,b.dem,zCc _ b (by omega) (by omega),xc (by show 0+3≤3; omega),zlv,zEF _ b.T (by omega) (by omega),xc rfl,zaq]
 unfold zkx
 by_cases h:zeM (fun x=>xJ x.a a) b.T 0 ≥ 0
 ·obtain ⟨j,hj,e⟩:=zzb h
  rw [if_pos h,if_pos h,e,xc (by omega),at3,cT hj,xI (n:=a.t) rfl,zA,xc (by omega),xc ⟨rfl,by rw [zjy]; omega⟩,zA,zCd hj,zew,zEz (zD5 _ _ _).symm,b.mk_v,b.v_mk,Int.toNat_natCast]
 ·rw [if_neg h,if_neg h,xc (by show 0+3≤3; omega),zEF _ b.H (by omega) (by omega),xc rfl,zaq]
  by_cases h':zeM (fun x=>xJ x.a a) b.H 0 ≥ 0
  ·obtain ⟨j,hj,e⟩:=zzb h'
   rw [if_pos h',if_pos h',e,xc (by omega),at3,cT hj,xI (n:=a.t) rfl,zA,xc (by omega),xc ⟨rfl,by rw [zjy]; omega⟩,zA,zCd hj,zew,zEz (zD5 _ _ _).symm,b.mk_v,b.v_mk,Int.toNat_natCast]
  ·rw [if_neg h',if_neg h',xc (by rw [b.len]; omega),xc (by show 0+3≤3; omega),b.t32,zIS L b.salt b.hs]
   generalize hbk b.salt a src=v
   have hr:=zxP b.H v
   rw [xc (by show 0+3≤3; omega),xc ⟨rfl,by omega⟩,xc (by show 1=1∧4+1≤5; omega),xc ⟨rfl,by omega⟩,zKN,zA,xI (n:=v) rfl,zth]
   cases he:b.H.isEmpty with
   | true =>
    have hn:b.H=[]:=by simpa using he
    have hlen:b.H.length=0:=by rw [hn]; rfl
    rw [zeE,zew,zpG _ b.H (by omega) (by omega),zA,zaf (by omega) (by omega),zaq,if_neg (by omega),if_neg (by omega),xc (by show 0+5≤5; omega),zeE,zt5,zmB _ b.H (by omega) (by omega),zew,b.mk_v,b.v_mk]
   | false =>
    rw [zaQ,zew,zpG _ b.H (by omega) (by omega),zA,zaf (by omega) (by omega),zaq]
    by_cases h8:toN b.H v - zah b.H v ≥ 8
    ·rw [if_pos (by omega),if_pos h8]
     refine (zFO (L+100) b (by omega) (toN b.H v) hr.2 a.v _ _ _ _ (L+100) (zah b.H v) (zah b.H v) hr.1 (by omega) (by omega)).trans ?_
     have hm:=zm3 b.H (zah b.H v) (toN b.H v) (toN b.H v - zah b.H v) (zah b.H v) (zah b.H v) (Nat.le_refl _) (by omega) (Nat.le_refl _) (by omega)
     generalize zlt b.H (toN b.H v - zah b.H v) (zah b.H v) (zah b.H v)=m at hm ⊢
     have hml:m < b.H.length:=by omega
     unfold zdk
     rw [xc (by omega),at3,cT hml,xI (n:=a.t) rfl,zaq,zxk hml]
     by_cases ht:b.H[m].a.t ≥ a.t
     ·rw [if_pos ht,if_pos ht,zew,zew,b.mk_v,b.v_mk]
     ·have hlr:(zf1 b.H m).length≤b.H.length:=(zeH _ _).length_le
      rw [if_neg ht,if_neg ht,zew,zxc _ b.H (by omega) m hml,xc (by show 0+5≤5; omega),zt5,zmB _ (zf1 b.H m) (by omega) (by omega),zew,b.mk_v,b.v_mk]
    ·rw [if_neg (by omega),if_neg h8,xc (by show 0+5≤5; omega),zt5,zmB _ b.H (by omega) (by omega),zew,b.mk_v,b.v_mk]
end
section
set_option linter.unusedVariables false
set_option linter.unusedSimpArgs false
set_option maxRecDepth 100000
variable {β:Type}
def bk0:Bk:=⟨List.replicate 32 0,[],[],by rfl⟩
theorem zHz (b:Bk) (k:List V→Int→Option β):chk (List.length b.v=34) (cI .u8 b.v 0 fun v0=>cI .u8 b.v 1 fun v1=>cI .u8 b.v 2 fun v2=>cI .u8 b.v 3 fun v3=>cI .u8 b.v 4 fun v4=>cI .u8 b.v 5 fun v5=>cI .u8 b.v 6 fun v6=>cI .u8 b.v 7 fun v7=>cI .u8 b.v 8 fun v8=>cI .u8 b.v 9 fun v9=>cI .u8 b.v 10 fun v10=>cI .u8 b.v 11 fun v11=>cI .u8 b.v 12 fun v12=>cI .u8 b.v 13 fun v13=>cI .u8 b.v 14 fun v14=>cI .u8 b.v 15 fun v15=>cI .u8 b.v 16 fun v16=>cI .u8 b.v 17 fun v17=>cI .u8 b.v 18 fun v18=>cI .u8 b.v 19 fun v19=>cI .u8 b.v 20 fun v20=>cI .u8 b.v 21 fun v21=>cI .u8 b.v 22 fun v22=>cI .u8 b.v 23 fun v23=>cI .u8 b.v 24 fun v24=>cI .u8 b.v 25 fun v25=>cI .u8 b.v 26 fun v26=>cI .u8 b.v 27 fun v27=>cI .u8 b.v 28 fun v28=>cI .u8 b.v 29 fun v29=>cI .u8 b.v 30 fun v30=>cI .u8 b.v 31 fun v31=>cL 5 b.v 32 fun v32=>cL 5 b.v 33 fun v33=>k [V.sc (.int .u8 v0),V.sc (.int .u8 v1),V.sc (.int .u8 v2),V.sc (.int .u8 v3),V.sc (.int .u8 v4),V.sc (.int .u8 v5),V.sc (.int .u8 v6),V.sc (.int .u8 v7),V.sc (.int .u8 v8),V.sc (.int .u8 v9),V.sc (.int .u8 v10),V.sc (.int .u8 v11),V.sc (.int .u8 v12),V.sc (.int .u8 v13),V.sc (.int .u8 v14),V.sc (.int .u8 v15),V.sc (.int .u8 v16),V.sc (.int .u8 v17),V.sc (.int .u8 v18),V.sc (.int .u8 v19),V.sc (.int .u8 v20),V.sc (.int .u8 v21),V.sc (.int .u8 v22),V.sc (.int .u8 v23),V.sc (.int .u8 v24),V.sc (.int .u8 v25),V.sc (.int .u8 v26),V.sc (.int .u8 v27),V.sc (.int .u8 v28),V.sc (.int .u8 v29),V.sc (.int .u8 v30),V.sc (.int .u8 v31),(V.sl 5 v32),(V.sl 5 v33)] (0:Int))=k b.v 0:=by
 rw [xc b.len,y5 b 0 (by omega),y5 b 1 (by omega),y5 b 2 (by omega),y5 b 3 (by omega),y5 b 4 (by omega),y5 b 5 (by omega),y5 b 6 (by omega),y5 b 7 (by omega),y5 b 8 (by omega),y5 b 9 (by omega),y5 b 10 (by omega),y5 b 11 (by omega),y5 b 12 (by omega),y5 b 13 (by omega),y5 b 14 (by omega),y5 b 15 (by omega),y5 b 16 (by omega),y5 b 17 (by omega),y5 b 18 (by omega),y5 b 19 (by omega),y5 b 20 (by omega),y5 b 21 (by omega),y5 b 22 (by omega),y5 b 23 (by omega),y5 b 24 (by omega),y5 b 25 (by omega),y5 b 26 (by omega),y5 b 27 (by omega),y5 b 28 (by omega),y5 b 29 (by omega),y5 b 30 (by omega),y5 b 31 (by omega)]
 have g1:∀ k:List (List V)→Option β,cL 5 b.v 32 k=k (zS b.H):=zxR b.g32
 have g2:∀ k:List (List V)→Option β,cL 5 b.v 33 k=k (zS b.T):=zxR b.g33
 rw [g1,g2,b.mk_v,b.v_mk]
theorem zKy (e:Plc) (v:Int):xg e.v 0 [V.sc (.int .i64 v)]=(⟨v,e.a,e.s⟩:Plc).v:=rfl
theorem zKH (b:Bk) (e:Plc):xg e.v 0 [V.sc (.int .i64 (tbk b.salt e.a))]=(zfn b e).v:=by
 unfold zfn
 exact zKy e _
theorem z3 (a:Adr):xg [(V.sc (.int .u32 (0:Int))),(V.sc (.int .u16 (0:Int))),(V.sc (.int .u32 (0:Int)))] 0 a.v=a.v:=zda rfl
theorem z5 (p:Plc):xg [(V.sc (.int .i64 (0:Int))),(V.sc (.int .u32 (0:Int))),(V.sc (.int .u16 (0:Int))),(V.sc (.int .u32 (0:Int))),(V.sc (.int .u32 (0:Int)))] 0 p.v=p.v:=zda rfl
theorem at0 (j:Nat):0+Int.toNat (j:Int) * 5=j * 5:=by rw [Int.toNat_natCast]; omega
theorem p13 (p:Plc):List.take 3 (List.drop 1 p.v)=p.a.v:=rfl
theorem cB0 (p:Plc) (k:Int→Option β):cI .i64 p.v 0 k=k p.b:=xI rfl k
theorem zJJ (L:Nat) (hL:200000 < L) (b:Bk) (hS:SndB b) (a:Adr) (j:Nat) (hj:j < b.H.length) (hf:zeM (fun x=>xJ x.a a) b.H 0=(j:Int)) (k:List V→Int→Option β):xy β (L+100) b.v a.v k=k (zuS b j b.H[j]).v 0:=by
 have hH:=hS.lenH
 have hT:=hS.lenT
 have hrl:(zf1 b.H j).length≤b.H.length:=(zeH _ _).length_le
 have hne:b.H.isEmpty=false:=by
  cases he:b.H with
  | nil=>rw [he] at hj; simp at hj
  | cons x l=>rfl
 unfold xy zrY
 rw [xc (by rw [b.len]; omega),b.take,b.dem,zHF _ b (by omega) (by omega) (by omega),(ztC b).2 hS,Bool.not_true,zaQ,zc6 b.g32,xc (by show 0+3≤3; omega),zlv,zBn _ b.H (by omega) (by omega),hf,zaq,if_neg (by omega),xc (by rw [b.len]; omega),zCc _ b (by omega) (by omega),xc (by omega),at0,xc (by rw [zjy]; omega),zH5 hj,xc ⟨rfl,by omega⟩,z5,zA,zth,hne,zaQ,zew,zxc _ b.H (by omega) j hj,xc (by rw [b.len]; omega),xc (by show 1+3≤5; omega),b.t32,p13,zGa L b.salt b.hs,xc (by show 1=1∧0+1≤5; omega),zA,zKH,cB0,zy9,zth]
 unfold zuS
 have hb:(zfn b b.H[j]).b=tbk b.salt b.H[j].a:=zy9 _ _
 generalize zfn b b.H[j]=p at hb ⊢
 generalize tbk b.salt b.H[j].a=v at hb ⊢
 have hr:=zxP b.T v
 cases he:b.T.isEmpty with
 | true =>
  have hn:b.T=[]:=by simpa using he
  have hlen:b.T.length=0:=by rw [hn]; rfl
  rw [zeE,zew,zpG _ b.T (by omega) (by omega),zA,zaf (by omega) (by omega),zaq,if_neg (by omega),if_neg (by omega),xc (by show 0+5≤5; omega),zeE,zt5,zmB _ b.T (by omega) (by omega),zaq,if_neg (by omega),b.mk_v,b.v_mk]
 | false =>
  rw [zaQ,zew,zpG _ b.T (by omega) (by omega),zA,zaf (by omega) (by omega),zaq]
  by_cases h8:toN b.T v - zah b.T v ≥ 8
  ·have hl:zah b.T v < b.T.length:=by omega
   have hrt:(zf1 b.T (zah b.T v)).length≤b.T.length:=(zeH _ _).length_le
   have hil:(zk5 (zf1 b.T (zah b.T v)) p).length≤b.T.length+1:=by
    unfold zk5
    simp only [List.length_append,List.length_take,List.length_drop,List.length_singleton]
    omega
   rw [if_pos (by omega),if_pos h8,xc (by omega),at0,xc (by rw [zjy]; omega),zEC hl,xc ⟨rfl,by omega⟩,z3,zA,zxc _ b.T (by omega) _ hl,xc (by show 0+5≤5; omega),zt5,zmB _ (zf1 b.T (zah b.T v)) (by omega) (by omega),zaq,if_pos (by omega),xc (by show 0+3≤3; omega),xc (by show 0+3≤3; omega),zlv,zzk,b.mk_v,b.v_mk,zFv L hL _ (by show (zf1 b.H j).length≤100000; omega) (by show (zk5 (zf1 b.T (zah b.T v)) p).length≤100000; omega)]
   rw [List.getElem?_eq_getElem hl]
   exact zHz _ k
  ·rw [if_neg (by omega),if_neg h8,xc (by show 0+5≤5; omega),zt5,zmB _ b.T (by omega) (by omega),zaq,if_neg (by omega),b.mk_v,b.v_mk]
theorem z34 (z:List V) (hz:z.length=34) (b:Bk):xg z 0 b.v=b.v:=zda (by rw [b.len,hz])
theorem zIH (L:Nat) (hL:200000 < L) (b:Bk) (hS:SndB b) (a:Adr) (src:Int) (k:List V→Bool→Int→Option β):xv β (L+100) b.v a.v src k=k (zkx b a src).1.v (zkx b a src).2 0:=by
 have hH:=hS.lenH
 have hT:=hS.lenT
 unfold xv zp3
 rw [xc (by rw [b.len]; omega),b.take,b.dem,zHF _ b (by omega) (by omega) (by omega),(ztC b).2 hS,Bool.not_true,zaQ,xc (by rw [b.len]; omega),xc (by show 0+3≤3; omega),zlv,zFv L hL b (by omega) (by omega)]
 generalize (zkx b a src).1=b'
 generalize (zkx b a src).2=r
 rw [xc ⟨b'.len,by omega⟩,z34 _ (by simp),zA,xc (by rw [b'.len]; omega),b'.take,xc ⟨b'.len,by omega⟩,z34 _ (by simp),zA,xc ⟨rfl,b'.len,by omega⟩]
end
end Go.Proofs.Ytpafdnidhnldhaa
