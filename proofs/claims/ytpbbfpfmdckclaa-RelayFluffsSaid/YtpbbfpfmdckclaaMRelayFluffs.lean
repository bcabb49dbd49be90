/- RelayFluffs: for every input the call returns true, and each argument reads afterwards as it read before. No condition. -/
import Derived.Test.YtpbbfpfmdckclaaMRelayFluffs11
namespace Go.Proofs.Ytpbbfpfmdckclaa
section
set_option linter.unusedVariables false
set_option linter.unusedSimpArgs false
variable {β:Type}
theorem zBF {t:Int} {l:List Stm} {i:Nat} (hi:i < l.length) (h1:∀ s ∈ l.take i,isD t s=false) (h2:isD t l[i]=true):(l.find? (isD t))=some l[i]∧y8 t l=l.take i++y8 t (l.drop (i+1))∧zay t l=l[i].h::zay t (l.drop (i+1)):=by
 have e:l=l.take i++l[i]::l.drop (i+1):=by rw [← List.drop_eq_getElem_cons hi,List.take_append_drop]
 have k1:y8 t (l.take i)=l.take i:=by rw [y8,List.filter_eq_self]; intro s hs; rw [h1 s hs]; rfl
 have k2:zay t (l.take i)=[]:=by
  rw [zay,List.map_eq_nil_iff,List.filter_eq_nil_iff]; intro s hs; rw [h1 s hs]; simp
 have k3:(l.take i).find? (isD t)=none:=by rw [List.find?_eq_none]; intro s hs; rw [h1 s hs]; simp
 refine ⟨?_,?_,?_⟩
 ·have:=congrArg (List.find? (isD t)) e
  rw [List.find?_append,k3,List.find?_cons,h2] at this
  simpa using this
 ·have:=congrArg (y8 t) e
  rw [zvo,k1] at this
  have e1:∀ m,y8 t (l[i]::m)=y8 t m:=by intro m; simp [y8,h2]
  rw [this,e1]
 ·have:=congrArg (zay t) e
  rw [zwq,k2] at this
  have e1:∀ m,zay t (l[i]::m)=l[i].h::zay t m:=by intro m; simp [zay,h2]
  rw [this,e1,List.nil_append]
theorem zue {L:Nat} {l:List Stm} (hl:l.length≤1000) (hL:2000≤L) (t:Int) (k:Int→List V→Int→List (List V)→Option β):ze β L l.length (sfl l) t ([]:List (List V)) k=if (∀ s ∈ l,isD t s=false) then k (-1) (sfl l) t [] else k (zeq (isD t) l 0) (sfl l) t ((zay t (l.find? (isD t)).toList).map Hs.v):=by
 unfold ze zau zbD
 have:=zrq L t l (by omega) k L 0 (by omega) (by omega) (by simp)
 rw [List.drop_zero] at this
 exact this
theorem zxZ {L:Nat} {l:List Stm} (hl:l.length≤500) (hL:2000≤L) (t:Int):∃ g',(y8 t l++g').length=l.length∧∀ (k:Nat→List V→Int→List (List V)→Option β),xk β L l.length (sfl l) t ([]:List (List V)) k=k (y8 t l).length (sfl (y8 t l++g')) t ((zay t l).map Hs.v):=by
 have e0:([]:List (List V))=([]:List Hs).map Hs.v:=rfl
 rcases zl0 (isD t) l 0 with ⟨e,hn⟩ | ⟨i,hi,e,h1,h2⟩
 ·have k1:y8 t l=l:=by rw [y8,List.filter_eq_self]; intro s hs; rw [hn s hs]; rfl
  have k2:zay t l=[]:=by
   rw [zay,List.map_eq_nil_iff,List.filter_eq_nil_iff]; intro s hs; rw [hn s hs]; simp
  refine ⟨[],by rw [List.append_nil,k1],fun k=>?_⟩
  unfold xk xW zaG
  rw [zue (by omega) hL]
  rw [if_pos hn,k1,k2,List.append_nil]
  rw [zk rfl,zaJ rfl,List.map_nil]
 ·obtain ⟨f1,f2,f3⟩:=zBF hi h1 h2
  have hk:=zl9 t (l.drop (i+1))
  rw [List.length_drop] at hk
  have hd:=zsr t (l.drop (i+1))
  rw [List.length_drop] at hd
  obtain ⟨g',q1,q2⟩:=zpG (β:=β) L t (fun a b c d e=>none) l.length (by omega) L (l.drop (i+1)) (l.take i) [l[i]] [l[i].h] (by rw [List.length_drop]; omega) (by simp) (by simp; omega) (by simp; omega)
  have hli:(l.take i).length=i:=by rw [List.length_take]; omega
  refine ⟨List.replicate (l.length - (y8 t l).length) zS,by rw [List.length_append,List.length_replicate,f2,List.length_append,hli]; omega,fun k=>?_⟩
  unfold xk xW zaG
  rw [zue (by omega) hL]
  rw [if_neg (fun h=>by rw [h _ (List.getElem_mem hi)] at h2; cases h2),e,Nat.zero_add]
  rw [zk rfl,yH (by omega),f1]
  have w1:IntKind.wrap .i64 ((i:Int)+1)=((i+1:Nat):Int):=zN (by omega)
  have e3:zay t (some l[i]).toList=[l[i].h]:=by simp [zay,h2]
  rw [w1,xw,e3]
  obtain ⟨g',q1,q2⟩:=zpG (β:=β) L t (fun p0l p5 b0 zCB zCD=>yW ze zg L p0l p5 b0 zCB zCD k) l.length (by omega) L (l.drop (i+1)) (l.take i) [l[i]] [l[i].h] (by rw [List.length_drop]; omega) (by simp) (by simp; omega) (by simp; omega)
  have e4:l.take i++[l[i]]++l.drop (i+1)=l:=by rw [List.append_assoc,List.singleton_append,← List.drop_eq_getElem_cons hi,List.take_append_drop]
  have e5:(l.take i++y8 t (l.drop (i+1))).length=i+(y8 t (l.drop (i+1))).length:=by rw [List.length_append,hli]
  rw [hli,List.length_singleton,e4,← f2,← e5,← f2,List.singleton_append,← f3] at q2
  refine q2.trans ?_
  unfold yW
  have hkl:=zl9 t l
  rw [zk ⟨by omega,by omega⟩,Int.toNat_natCast,zBA,zxE,Nat.zero_add,zrD,xw,zk ⟨by omega,by omega⟩,Nat.sub_zero]
  congr 2
  rw [List.take_append_of_le_length (Nat.le_refl _),List.take_length,List.drop_of_length_le (by rw [List.length_append,List.length_replicate,q1,hli,f2,e5]; omega),List.append_nil]
def Rl.keep (r:Rl) (t:Int):Rl:={ r with st:=y8 t r.st }
theorem zBa {L:Nat} {r:Rl} (hr:r.Ok) (hL:2000≤L) (t:Int) (k k1:List V→List (List V)→Option β):zf β L r.v t k k1=if ze2 r=true then k1 (r.keep t).v ((zay t r.st).map Hs.v) else k r.v []:=by
 have h1:=hr.nr; have h2:=hr.ns; have h3:=hr.nf
 obtain ⟨g',q1,q2⟩:=zxZ (β:=β) h2 hL t
 unfold zf zoG
 rw [zgd,zg2,zf3,ziP,ziu,ziH,zga r,zss hr hL,zjR hr]
 cases hs:ze2 r with
 | false =>
  rw [Bool.not_false,xQ,if_neg (by simp),ziQ]
 | true =>
  rw [Bool.not_true,xy,if_pos rfl,q2,zk (by rw [zeS,zeS,q1])]
  have hk:=zl9 t r.st
  rw [zpM _ (by rw [List.length_append]; omega),List.take_append_of_le_length (Nat.le_refl _),List.take_length,chI,chH]
  exact Eq.trans rfl rfl
theorem zBx (s:Stm) (k:Int→Option β):cI .u32 (List.drop 34 s.v) 0 k=k s.due:=by
 apply zcX
 rw [List.getElem?_drop,Nat.add_zero,Stm.v,List.getElem?_append_right (by rw [zeW,s.hid]; omega),zeW,s.hid]
 rfl
theorem zCi (l:List Stm) (hl:l.length≤1000) (s:Stm) (k:List (List V)→Option β) :
  chk ((List.length (List.take 35 s.v))=35∧0+35≤35) (
  chk ((List.length (l.map Stm.v)+List.length (xb 35 1 (ya (List.replicate 32 (V.sc (.int .u8 (0:Int)))++[(V.sc (.int .i64 (0:Int))),(V.sc (.int .i64 (0:Int))),(V.sc (.int .u32 (0:Int)))]) 0 (List.take 35 s.v)))) * 56≤yi∧List.length (l.map Stm.v)+List.length (xb 35 1 (ya (List.replicate 32 (V.sc (.int .u8 (0:Int)))++[(V.sc (.int .i64 (0:Int))),(V.sc (.int .i64 (0:Int))),(V.sc (.int .u32 (0:Int)))]) 0 (List.take 35 s.v)))≤yi) (
  lt ((l.map Stm.v)++(xb 35 1 (ya (List.replicate 32 (V.sc (.int .u8 (0:Int)))++[(V.sc (.int .i64 (0:Int))),(V.sc (.int .i64 (0:Int))),(V.sc (.int .u32 (0:Int)))]) 0 (List.take 35 s.v)))) k))=k ((l++[s]).map Stm.v):=by
 rw [zyA,zka,zpN,zk (by simp only [List.length_singleton,List.length_map,yi]; omega),xw,zwO]
theorem zvh {L:Nat} {r:Rl} (hr:r.Ok) (t:Int) (kx:zmL β) (zCI:Int) (zCJ:Bool) (zCF zCG zCH:List (List V)) (zCX:Int) (zCY:Bool) (zCV:Nat) (zCW:Nat) (b13 b15 b17:List V):∀ (n i:Nat),i≤r.st.length→r.st.length - i < n →
  zdK xg xj L kx n t ((zay t (r.st.take i)).map Hs.v) (i:Int) r.v zCI zCJ zCF zCG zCH zCX zCY zCV ((y8 t (r.st.take i)).map Stm.v) zCW b13 b15 b17=kx ((zay t r.st).map Hs.v) zCI zCJ zCF zCG zCH zCX zCY zCV ((y8 t r.st).map Stm.v) zCW b13 b15 b17
 | 0,i,h1,h2=>by omega
 | n+1,i,h1,h2=>by
  have hs:=hr.ns
  unfold zdK zhy
  by_cases hi:i < r.st.length
  ·have ih:=zvh (L:=L) hr t kx zCI zCJ zCF zCG zCH zCX zCY zCV zCW b13 b15 b17 n (i+1) (by omega) (by omega)
   have w1:IntKind.wrap .i64 ((i:Int)+1)=((i+1:Nat):Int):=zN (by omega)
   have d1:=zsr t (r.st.take i)
   have d2:=zl9 t (r.st.take i)
   rw [List.length_take] at d1 d2
   rw [List.take_succ_eq_append_getElem hi,zwq,zvo] at ih
   rw [zeG,List.length_map,xE (by omega),zeG,z9 (zfx hi),zBx]
   by_cases q:r.st[i].due≤t
   ·have e:isD t r.st[i]=true:=decide_eq_true q
    have e1:zay t [r.st[i]]=[r.st[i].h]:=by simp [zay,e]
    have e2:y8 t [r.st[i]]=[]:=by simp [y8,e]
    rw [e1,e2,List.append_nil] at ih
    rw [xE q,zeG,z9 (zfx hi),zqX]
    have:=zBC (zay t (r.st.take i)) (by omega) r.st[i].h (β:=β)
    simp only [xY] at this
    refine (this _).trans ?_
    rw [w1,xw]
    exact ih
   ·have e:isD t r.st[i]=false:=decide_eq_false q
    have e1:zay t [r.st[i]]=[]:=by simp [zay,e]
    have e2:y8 t [r.st[i]]=[r.st[i]]:=by simp [y8,e]
    rw [e1,e2,List.append_nil] at ih
    rw [xz q,zeG,z9 (zfx hi)]
    refine (zCi (y8 t (r.st.take i)) (by omega) r.st[i] _).trans ?_
    rw [w1,xw]
    exact ih
  ·rw [zeG,List.length_map,xz (by omega),List.take_of_length_le (by omega)]
theorem zxi {L:Nat} {r:Rl} (hr:r.Ok) (hL:2000≤L) (t:Int) (k:List V→List (List V)→Option β):xf β L r.v t k=if ze2 r=true then k (r.keep t).v ((zay t r.st).map Hs.v) else k r.v []:=by
 have h1:=hr.nr; have h2:=hr.ns; have h3:=hr.nf
 unfold xf zlS zoz
 rw [za6,zia,zdm hr,za6,zq4 hr hL]
 cases hs:ze2 r with
 | false =>
  rw [Bool.not_false,xQ,if_neg (by simp),ziQ]
 | true =>
  rw [Bool.not_true,xy,if_pos rfl]
  refine (zvh hr t _ _ _ _ _ _ _ _ _ _ _ _ _ L 0 (by omega) (by omega)).trans ?_
  unfold zgb
  rw [chI,chH]
  exact Eq.trans rfl rfl
end
section
set_option linter.unusedVariables false
set_option linter.unusedSimpArgs false
theorem zBI {L:Nat} {l:List Int} (hl:l.length≤maxLen):∃ d:Dk,d.es=zaV .i64 l∧d.a=0:=⟨⟨l,0,by omega,by omega,by unfold maxLen at hl; omega⟩,rfl,rfl⟩
theorem zBW {a:List V} (h:HasRow (List.replicate 32 (.int .u8)) a):∃ s:Hs,a=s.v:=by
 obtain ⟨l,rfl,hl,_⟩:=zy3 h
 exact ⟨⟨l,hl⟩,rfl⟩
end
section
set_option linter.unusedVariables false
set_option linter.unusedSimpArgs false
variable {β:Type}
theorem zA3 {r:Rl} (hr:r.Few) (h:Hs):(r.gone h).Ok:=by
 have h1:=hr.nr; have h2:=hr.ns; have h3:=hr.nf
 refine ⟨by simp [Rl.gone]; omega,?_,by simp [Rl.gone]; omega⟩
 unfold Rl.gone
 show (if _ then _ else _:List Stm).length≤500
 split
 ·unfold zsm; simp; omega
 ·omega
theorem zzO {L:Nat} {r:Rl} (hr:r.Few) (hL:2000≤L) (h:Hs):∃ (q:Rl) (e:Int),q.Ok∧(∀ (β:Type) (k:List V→Int→Option β),yb β L r.v h.v k=k q.v e)∧(∀ (β:Type) (k:List V→Int→Option β),yf β L r.v h.v k=k q.v e):=by
 have h1:=hr.nr; have h2:=hr.ns; have h3:=hr.nf
 have key:∃ (q:Rl) (e:Int),q.Ok∧∀ (β:Type) (k:List V→Int→Option β),zl3 r h k=k q.v e:=by
  by_cases q1:ze2 r=true
  ·by_cases q4:r.fl.any (isH h)=true
   ·exact ⟨zeroR,150,zlg,fun β k=>by unfold zl3; rw [q1,Bool.not_true,xy,q4,xQ,znf]⟩
   ·have q4':r.fl.any (isH h)=false:=by simpa using q4
    exact ⟨r.gone h,0,zA3 hr h,fun β k=>by unfold zl3; rw [q1,Bool.not_true,xy,q4',xy,if_neg (by omega)]⟩
  ·have q1':ze2 r=false:=by simpa using q1
   exact ⟨zeroR,6,zlg,fun β k=>by unfold zl3; rw [q1',Bool.not_false,xQ,znf]⟩
 obtain ⟨q,e,hq,H⟩:=key
 exact ⟨q,e,hq,fun β k=>(zzE hr.ok hL h k).trans (H β k),fun β k=>(zzr hr.ok hL h k).trans (H β k)⟩
theorem zBG {L:Nat} (hL:2000≤L) {r:Rl} (hr:r.Few) (ids:List Hs) (hi:ids.length≤100) (kr:Bool→List (List V)→Int→Option β) (kx:zgv β) (p2 p4:Int) (p36:List (List V)) (p37 p38:Int) (b6:List V) (b0:List (List V)) (b1:Int):∀ (n i:Nat),i≤ids.length→ids.length - i < n →
  zaj xa yc yd zb xd yb yf zd zf xf za L kr kx n p2 p4 p36 p37 p38 (ids.map Hs.v) (ids.length:Int) (i:Int) b6 r.v b0 b1=kx p2 p4 p36 p37 p38 b6 r.v b0 b1
 | 0,i,h1,h2=>by omega
 | n+1,i,h1,h2=>by
  unfold zaj zcB
  by_cases h:i < ids.length
  ·obtain ⟨q,e,hq,H1,H2⟩:=zzO hr hL ids[i]
   rw [xE (by omega),z9 (ziC h),zrj,xw,xY,ztN,za6,zaH,zia,xY,H1,zgu,xw,zh7,za6,zaH,H2,zgu,xw,zh7,zcf,if_pos rfl,za6,za6,zia,zrx hq hL,Bool.not_true,xy,xw,zN (by omega)]
   exact zBG hL hr ids hi kr kx p2 p4 p36 p37 p38 b6 b0 b1 n (i+1) (by omega) (by omega)
  ·rw [xz (by omega)]
theorem zzt {L:Nat} (hL:2000≤L) (k:Bool→Option β):za β L [] [] k=k true:=zyo (l:=[]) (by simp) hL k
theorem zBN {L:Nat} (hL:2000≤L) {r:Rl} (hr:r.Few) (ts:List Int) (hi:ts.length≤100) (kr:Bool→List (List V)→Int→Option β) (kx:zgp β) (p2 p4:Int) (p36:List (List V)) (p37 p38:Int) (b6:List V) (b0:List (List V)) (b1:Int):∀ (n i:Nat),i≤ts.length→ts.length - i < n →
  zah xa yc yd zb xd yb yf zd zf xf za L kr kx n p2 p4 p36 p37 p38 (zaV .u32 ts) (ts.length:Int) (i:Int) b6 r.v b0 b1=kx p2 p4 p36 p37 p38 b6 b0 b1
 | 0,i,h1,h2=>by omega
 | n+1,i,h1,h2=>by
  unfold zah zcx
  by_cases h:i < ts.length
  ·have ih:=zBN hL hr ts hi kr kx p2 p4 p36 p37 p38 b6 b0 b1 n (i+1) (by omega) (by omega)
   have hn:=hr.ns
   have hd:=zsr ts[i] r.st
   have hk:=zl9 ts[i] r.st
   have hko:(r.keep ts[i]).Ok:=⟨by have:=hr.nr; simp [Rl.keep]; omega,by simp [Rl.keep]; omega,by have:=hr.nf; simp [Rl.keep]; omega⟩
   rw [xE (by omega),z9 (zlj _ h),zcX rfl,za6,zia,zBa hr.ok hL]
   by_cases q1:ze2 r=true
   ·rw [if_pos q1,zgu,xw,zh7,za6,zxi hr.ok hL,if_pos q1,zgu,xw,zh7,za6,za6,zia,zrx hko hL,Bool.not_true,xy,zyo (by omega) hL,Bool.not_true,xy,xw,zN (by omega)]
    exact ih
   ·rw [if_neg q1,zgu,xw,zh7,za6,zxi hr.ok hL,if_neg q1,zgu,xw,zh7,za6,za6,zia,zrx hr.ok hL,Bool.not_true,xy,zzt hL,Bool.not_true,xy,xw,zN (by omega)]
    exact ih
  ·rw [xz (by omega)]
theorem zBH {L:Nat} (hL:2000≤L) (rs:List Rl) (hrs:∀ r ∈ rs,r.Few) (hl:rs.length≤100) (kr:Bool→List (List V)→Int→Option β) (kx:List (List V)→Int→Option β) (p2 p4:Int) (b6:Hs) (b0:List (List V)) (b1:Int):∀ (n i:Nat),i≤rs.length→rs.length - i < n →
  zbO xa yc yd zb xd yb yf zd zf xf za L kx kr n p2 p4 (rs.map Rl.v) (rs.length:Int) (i:Int) b6.v b0 b1=kx b0 b1
 | 0,i,h1,h2=>by omega
 | n+1,i,h1,h2=>by
  unfold zbO zcP zeH
  by_cases h:i < rs.length
  ·obtain ⟨x,x0,x1,hx⟩:=zkc L p4 10 (by decide) (by decide)
   have hg:(rs.map Rl.v)[i]?=some rs[i].v:=by simp [h]
   rw [xE (by omega),z9 hg,zul,zgu,xw,zh7,zaH,hx,xw,zxB b6,xY,zvU,zyC]
   rw [zk ⟨rfl,by rw [zmb (by rw [zcZ]; decide)]; decide⟩]
   refine (zBG hL (hrs _ (List.getElem_mem h)) [b6,kid (IntKind.wrap .u8 x)] (by simp) _ _ p2 p4 (rs.map Rl.v) _ _ b6.v b0 b1 L 0 (by simp) (by simp; omega)).trans ?_
   unfold zaN zb3
   have e2:∀ y:Int,xb 1 2 [(V.sc (.int .u32 p2)),(V.sc (.int .u32 y))]=zaV .u32 [p2,y]:=fun y=>rfl
   rw [xw,e2,xS]
   refine (zBN hL (hrs _ (List.getElem_mem h)) [p2,Int.tmod p2 60] (by simp) _ _ p2 p4 (rs.map Rl.v) _ _ b6.v b0 b1 L 0 (by simp) (by simp; omega)).trans ?_
   unfold zbY
   rw [xw,zN (by omega)]
   exact zBH hL rs hrs hl kr kx p2 p4 b6 b0 b1 n (i+1) (by omega) (by omega)
  ·rw [xz (by omega)]
theorem zrL (a0:List (List V)) (a1:List V) (a2 a3 a4:Int) (hl0:a0.length≤maxLen) (wf0:∀ e ∈ a0,HasRow [.int .i64] e) (wf1:HasRow (List.replicate 32 (.int .u8)) a1) (wf2:(Lit.int .u32 a2).wf=true) (wf3:(Lit.int .i64 a3).wf=true) (wf4:(Lit.int .i64 a4).wf=true) :
  ∃ L,∀ k:Bool→Option Bool,zcF Bool L a0 a1 a2 a3 a4 k=k true:=by
 obtain ⟨l,rfl,_⟩:=zxq wf0
 rw [xS] at hl0
 obtain ⟨h,rfl⟩:=zBW wf1
 obtain ⟨L,hL⟩:∃ L:Nat,5000≤L:=⟨5000,Nat.le_refl _⟩
 refine ⟨L+100,fun k=>?_⟩
 obtain ⟨d,e1,e2⟩:=zBI (L:=L) hl0
 obtain ⟨r,d1,h1,h2,h3,q1⟩:=zzv (L:=L+100) (by omega) d
 obtain ⟨r',hr',q2⟩:=zzI (L:=L+100) h1 h2 h3 a3 a4
 have hr:r.Few:=⟨by omega,by omega,by omega⟩
 have h1:=q1 Bool
 rw [e1,e2] at h1
 unfold zcF zfj zhw
 rw [zBp,Bool.not_true,xy,zBk,h1,zgu,xw,zh7,za6,za6,zia,zul,q2,zk ⟨rfl,by decide⟩,zk ⟨rfl,Nat.le_refl 10⟩,zBD]
 refine (zBH (L:=L+100) (by omega) [r,r'] (by intro x hx; simp only [List.mem_cons,List.not_mem_nil,or_false] at hx; rcases hx with rfl | rfl <;> assumption) (by simp) _ _ a2 a4 h d1.es d1.a (L+100) 0 (by simp) (by simp)).trans ?_
 rfl
end
section
namespace relayFluffsL
open Go.ChangeShapes Go.WideShapes Go.ChangeAt Go.RowKit
set_option linter.unusedVariables false
theorem own:ownKnob Try.prog.godebug=none:=by kernel_rfl
theorem zpp:laidOutB Try.prog=true:=by kernel_rfl
set_option maxRecDepth 100000 in
theorem zBi (os:Os) (started:os.Started) (H:Type) (enc:TypeId × Value→H) :
  ReturnsInHanded {} Try.checked os 8 .any (Rows.relayFluffsSpec.pre6 enc Try.prog Try.f8 Rows.relayFluffsRow.domain false) (Rows.relayFluffsSpec.post enc Try.prog Try.f8 false true false false):=by
 refine returnsInHanded_of_change (C:=Try.checked) own started (by kernel_rfl) Try.func8
  (ChangeSpec.witness6 (enc:=enc) (C:=Try.checked) false ⟨#[],#[.slice none 0 0,.agg (Array.replicate 32 (Value.int .u8 0)),.int .u32 0,.int .i64 0,.int .i64 0],[]⟩ 8 (by kernel_rfl) (by kernel_rfl) (by kernel_rfl) (by kernel_rfl)) ?_
 intro W base args ds gs before hval0 hW hcnd _
 have hval:∀ (j:Nat) t v,Try.f8.params[j]?=some t→args[j]?=some v→Value.okWide Try.prog W .any base t v:=hval0
 have hW':=hW
 obtain ⟨p,q,hA0,hV,rfl,hfz,hnd⟩:=hW
 have hA:DataW.TrodAll enc Try.prog W 0 (fun _=>true) true Try.f8.params.toList args.toList ds p:=hA0
 rw [Try.params8] at hA hval
 obtain ⟨v0,vs0,d0,ds0,p0,q0,hargs,rfl,rfl,h0,r0⟩:=trodAll_cons hA
 obtain ⟨v1,vs1,d1,ds1,p1,q1,rfl,rfl,rfl,h1,r1⟩:=trodAll_cons r0
 obtain ⟨v2,vs2,d2,ds2,p2,q2,rfl,rfl,rfl,h2,r2⟩:=trodAll_cons r1
 obtain ⟨v3,vs3,d3,ds3,p3,q3,rfl,rfl,rfl,h3,r3⟩:=trodAll_cons r2
 obtain ⟨v4,vs4,d4,ds4,p4,q4,rfl,rfl,rfl,h4,r4⟩:=trodAll_cons r3
 obtain ⟨rfl,rfl,rfl⟩:=trodAll_nil r4
 obtain rfl:args=#[v0,v1,v2,v3,v4]:=by cases args; simp_all
 obtain ⟨rfl,rfl⟩:=trodVars_none hV
 have k0:=h0
 have lt0:∀ x ∈ p0,x.block < W.heap.size:=by obtain ⟨m,hm⟩:=k0; exact DataW.trod_lt m _ _ _ hm
 have k1:=h1
 have lt1:∀ x ∈ p1,x.block < W.heap.size:=by obtain ⟨m,hm⟩:=k1; exact DataW.trod_lt m _ _ _ hm
 have k2:=h2
 have lt2:∀ x ∈ p2,x.block < W.heap.size:=by obtain ⟨m,hm⟩:=k2; exact DataW.trod_lt m _ _ _ hm
 have k3:=h3
 have lt3:∀ x ∈ p3,x.block < W.heap.size:=by obtain ⟨m,hm⟩:=k3; exact DataW.trod_lt m _ _ _ hm
 have k4:=h4
 have lt4:∀ x ∈ p4,x.block < W.heap.size:=by obtain ⟨m,hm⟩:=k4; exact DataW.trod_lt m _ _ _ hm
 obtain ⟨A0,len0,cap0,rfl⟩:=okWide_slice Try.underlying22 (hval 0 22 v0 rfl rfl)
 obtain ⟨x0,hx0,rp0⟩:=zAP (r:=.any) (b0:=base) (ren:=xX fg gls) (d:=20) (ct:=.sl ([.int .i64])) rfl h0 (by kernel_rfl)
 obtain ⟨a0,rfl,hl0,wf0⟩:=hx0.sl_inv
 obtain ⟨a1,wf1,rp1⟩:=zAN (ren:=xX fg gls) (d:=20) (cts:=List.replicate 32 (.int .u8)) (by kernel_rfl) (hval 1 55 v1 rfl rfl) h1 (by kernel_rfl)
 obtain ⟨a2,rfl,rfl,rfl,wf2⟩:=open_int Try.underlying35 (hval 2 35 v2 rfl rfl) h2
 obtain ⟨a3,rfl,rfl,rfl,wf3⟩:=open_int Try.underlying3 (hval 3 3 v3 rfl rfl) h3
 obtain ⟨a4,rfl,rfl,rfl,wf4⟩:=open_int Try.underlying3 (hval 4 3 v4 rfl rfl) h4
 clear hA0 hval0
 obtain ⟨L,hL⟩:=zrL a0 a1 a2 a3 a4 hl0 wf0 wf1 wf2 wf3 wf4
 obtain ⟨v,b,hev,hk⟩:=zo5 L 100 (by decide) Bool [(V.sl 1 a0),(V.agg a1),(V.sc (.int .u32 a2)),(V.sc (.int .i64 a3)),(V.sc (.int .i64 a4))] [] zvX true (hL (fun p=>zvX (V.sc (.bool p)) []))
 have hv:=zzm hk
 subst hv
 refine (zys (us:=[.slice A0 len0 cap0,v1,.int .u32 a2,.int .i64 a3,.int .i64 a4]) (w:=W) (fun _ _ h=>by cases h) (zB2 L 100) (f:=8) (by kernel_rfl) rfl (fun i x u hx hu=>?_) hev).mono fun e W' ⟨he,bel0⟩=>?_
 ·match i,hx,hu with
  | 0,hx,hu=>cases hx; cases hu; exact rp0
  | 1,hx,hu=>cases hx; cases hu; exact rp1
  | 2,hx,hu=>cases hx; cases hu; exact .sc _ rfl
  | 3,hx,hu=>cases hx; cases hu; exact .sc _ rfl
  | 4,hx,hu=>cases hx; cases hu; exact .sc _ rfl
  | n+5,hx,hu=>simp at hx
 ·have bel:=Kept.below bel0
  subst he
  exact ⟨_,rfl,_,_,_,[],_,[],hW',trodAll_mk1 (shut_bool Try.underlying4 _),(trodAll_cons_mk (Below.trod zpp (by kernel_rfl) (of_decide_eq_true (by kernel_rfl)) k0 bel lt0) (trodAll_cons_mk (Below.trod zpp (by kernel_rfl) (of_decide_eq_true (by kernel_rfl)) k1 bel lt1) (trodAll_cons_mk (Below.trod zpp (by kernel_rfl) (of_decide_eq_true (by kernel_rfl)) k2 bel lt2) (trodAll_cons_mk (Below.trod zpp (by kernel_rfl) (of_decide_eq_true (by kernel_rfl)) k3 bel lt3) (trodAll_cons_mk (Below.trod zpp (by kernel_rfl) (of_decide_eq_true (by kernel_rfl)) k4 bel lt4) trodAll_mk0))))),rfl,bel.frame _,fun h=>by cases h⟩
theorem over:Rows.relayFluffsRow.holds Try.pinned (OpenSpec.ofChange Rows.relayFluffsSpec) :=
 OpenClaim.holds_of_wide 8 Try.f8 rfl rfl rfl rfl rfl rfl rfl ⟨rfl,rfl,rfl,rfl,rfl⟩ rfl rfl rfl rfl rfl (by kernel_rfl) Try.func8 (by kernel_rfl)
  (of_decide_eq_true (by kernel_rfl)) (by unfold Func.isWrapper; first | (rw [if_pos (by decide +kernel)]; kernel_rfl) | (rw [if_neg (by decide +kernel)]; exact ⟨rfl,rfl⟩))
  (fun os started H enc _=>zBi os started H enc)
end relayFluffsL
theorem relayFluffs_holds:Rows.RelayFluffsSaid:=relayFluffsL.over
end
end Go.Proofs.Ytpbbfpfmdckclaa
