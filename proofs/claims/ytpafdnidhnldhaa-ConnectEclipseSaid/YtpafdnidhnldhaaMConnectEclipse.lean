/- ConnectEclipse: for every input the call returns true, and each argument reads afterwards as it read before. No condition. -/
import Derived.Test.YtpafdnidhnldhaaMConnectEclipse12
namespace Go.Proofs.Ytpafdnidhnldhaa
section
set_option linter.unusedVariables false
set_option linter.unusedSimpArgs false
set_option maxRecDepth 100000
theorem zGV (L:Nat) (v n:Int) (hn:1≤n) (hn2:n≤1000000000000):∃ r,0≤r∧r < n∧∀ (β:Type) (k:Int→Option β),yi β L v n k=k r:=by
 by_cases h:Int.tmod v n < 0
 ·have h1:=Int.lt_tmod_of_pos v (show 0 < n by omega)
  refine ⟨Int.tmod v n+n,by omega,by omega,fun β k=>?_⟩
  simp only [yi,zqP,zA]
  rw [xc (by omega),zaI h,zaf (by omega) (by omega)]
 ·have h1:=Int.tmod_lt_of_pos v (show 0 < n by omega)
  refine ⟨Int.tmod v n,by omega,h1,fun β k=>?_⟩
  simp only [yi,zqP,zA]
  rw [xc (by omega),za2 h]
structure Dk where
 l:List Int
 a:Int
 h0:0≤a
 h1:a≤l.length
 hl:l.length≤9223372036854775807
def Dk.es (d:Dk):List (List V):=zaP .i64 d.l
theorem zhz (L:Nat) (d:Dk) (n:Int) (hn:1≤n) (hn2:n≤1000000000000):∃ (r:Int) (d':Dk),d'.l=d.l∧0≤r∧r < n∧∀ (β:Type) (k:Int→List (List V)→Int→Option β),za β L n d.es d.a k=k r d'.es d'.a:=by
 obtain ⟨l,a,h0,h1,hl⟩:=d
 simp only [Dk.es]
 by_cases h:a < l.length
 ·obtain ⟨i,rfl⟩:∃ i:Nat,a=i:=⟨a.toNat,by omega⟩
  have hi:i < l.length:=by omega
  obtain ⟨r,q1,q2,q3⟩:=zGV L l[i] n hn hn2
  refine ⟨r,⟨l,i+1,by omega,by omega,hl⟩,rfl,q1,q2,fun β k=>?_⟩
  simp only [za,zio,xT,zig,zA,zeJ]
  have w1:IntKind.wrap .i64 ((i:Int)+1)=(i:Int)+1:=zaf (by omega) (by omega)
  have w2:IntKind.wrap .i64 ((i:Int)+1 - 1)=(i:Int):=by rw [zaf (by omega) (by omega)]; omega
  rw [zze,if_pos (by omega),w1,w2,za3 (zzC _ hi),xI (by rfl),q3]
 ·refine ⟨0,⟨l,a,h0,h1,hl⟩,rfl,by omega,by omega,fun β k=>?_⟩
  simp only [za,zio,xT,zig,zA,zeJ]
  rw [zze,if_neg (by omega)]
theorem zJs (L:Nat) (d:Dk):∃ (id:List Int) (d':Dk),d'.l=d.l∧id.length=32∧∀ (β:Type) (k:List V→List (List V)→Int→Option β),yA β L d.es d.a k=k (row .u8 id) d'.es d'.a:=by
 obtain ⟨r,d1,e1,_,_,q1⟩:=zhz L d 5 (by omega) (by omega)
 obtain ⟨s,d2,e2,_,_,q2⟩:=zhz L d1 7 (by omega) (by omega)
 refine ⟨IntKind.wrap .u8 r::(List.replicate 30 0++[IntKind.wrap .u8 s]),d2,by rw [e2,e1],by simp,fun β k=>?_⟩
 simp only [yA,ztk,q1,q2,zA]
 rw [xc (by simp)]
 rfl
theorem zJP (n:Int):0≤IntKind.wrap .u32 n:=by
 unfold IntKind.wrap
 simp only [IntKind.signed,Bool.false_and,Bool.false_eq_true,if_false,IntKind.bits]
 exact Int.emod_nonneg n (by decide)
theorem zJw (L:Nat) (d:Dk):∃ (a:Adr) (d':Dk),d'.l=d.l∧0≤a.h∧∀ (β:Type) (k:List V→List (List V)→Int→Option β),xf β L d.es d.a k=k a.v d'.es d'.a:=by
 obtain ⟨r1,d1,e1,_,_,q1⟩:=zhz L d 6 (by omega) (by omega)
 obtain ⟨r2,d2,e2,_,_,q2⟩:=zhz L d1 5 (by omega) (by omega)
 obtain ⟨r3,d3,e3,_,_,q3⟩:=zhz L d2 2 (by omega) (by omega)
 obtain ⟨r4,d4,e4,_,_,q4⟩:=zhz L d3 50 (by omega) (by omega)
 refine ⟨⟨IntKind.wrap .u32 (zre .u32 (IntKind.wrap .u32 r1) 16+IntKind.wrap .u32 r2),IntKind.wrap .u16 r3,IntKind.wrap .u32 r4⟩,d4,by rw [e4,e3,e2,e1],zJP _,fun β k=>?_⟩
 simp only [xf,ztu,q1,q2,q3,q4,zA]
 rw [xc (by simp)]
 rfl
theorem zGU (A B r:List V) (h:A.length=r.length):xg (A++B) 0 r=r++B:=by
 unfold xg
 rw [List.take_zero,Nat.zero_add,List.drop_left' h,List.nil_append]
def Bk.new (s:List Int) (h:s.length=32):Bk:=⟨s,[],[],h⟩
theorem zJp (s:List Int) (h:s.length=32):SndB (Bk.new s h):=⟨TOk.nil _ _,TOk.nil _ _,fun x hx=>by cases hx⟩
def z34g:List V:=List.replicate 32 (V.sc (.int .u8 (0:Int)))++[(V.gs 5 ([]:List (List V))),(V.gs 5 ([]:List (List V)))]
theorem zEj:z34g.length=34:=by simp [z34g]
theorem zHi {b:Bk} {i:Nat} (hi:i < b.H.length):∃ j:Nat,j < b.H.length∧zeM (fun x=>xJ x.a b.H[i].a) b.H 0=(j:Int):=by
 refine zzb ?_
 have:=zFk (fun x:Plc=>xJ x.a b.H[i].a) b.H 0
 have h2:b.H.any (fun x=>xJ x.a b.H[i].a)=true:=List.any_eq_true.2 ⟨b.H[i],List.getElem_mem hi,zuY _⟩
 rw [h2] at this
 exact of_decide_eq_true this
theorem zHM (L:Nat) (hL:200000 < L):∀ (c m:Nat) (b:Bk) (d:Dk),c < m→c≤1000→SndB b→NnB b→∃ (b':Bk) (d':Dk),d'.l=d.l∧SndB b'∧NnB b'∧∀ (β:Type) (kx:List (List V)→Int→List V→List V→Option β),zce yA za xy xf xv (L+100) kx m (c:Int) d.es d.a z34g b.v=kx d'.es d'.a z34g b'.v:=by
 intro c
 induction c with
 | zero =>
  intro m b d hm hc hS hN
  refine ⟨b,d,rfl,hS,hN,fun β kx=>?_⟩
  obtain ⟨m,rfl⟩:∃ q,m=q+1:=⟨m - 1,by omega⟩
  simp only [zce,zdZ]
  rw [za2 (by omega)]
 | succ c IH =>
  intro m b d hm hc hS hN
  obtain ⟨m,rfl⟩:∃ q,m=q+1:=⟨m - 1,by omega⟩
  have hH:=hS.lenH
  have w:IntKind.wrap .i64 (((c+1:Nat):Int) - 1)=(c:Int):=by rw [zaf (by omega) (by omega)]; omega
  obtain ⟨r0,d0,e0,g1,g2,q0⟩:=zhz (L+100) d 4 (by omega) (by omega)
  by_cases h0:r0=0
  ·by_cases hp:0 < b.H.length
   ·obtain ⟨r1,d1,e1,g3,g4,q1⟩:=zhz (L+100) d0 (b.H.length:Int) (by omega) (by omega)
    obtain ⟨i,rfl⟩:∃ i:Nat,r1=i:=⟨r1.toNat,by omega⟩
    have hi:i < b.H.length:=by omega
    obtain ⟨j,hj,hf⟩:=zHi hi
    obtain ⟨b',d',e',hS',hN',q'⟩:=IH m (zuS b j b.H[j]) d1 (by omega) (by omega) (zG6 hS hj) (zIF hN hj)
    refine ⟨b',d',by rw [e',e1,e0],hS',hN',fun β kx=>?_⟩
    simp only [zce,zdZ,q0]
    rw [zaI (by omega),zhr,if_pos h0,zc6 b.g32,zac,zaI (by omega),xc (by rw [b.len]; omega),zc6 b.g32,zc6 b.g32,zac,q1,za3 (zcD hi),b.take,b.dem,p13,zJJ L hL b hS _ j hj hf,xc ⟨Bk.len _,by rw [b.len]; omega⟩,z34 _ b.len,zA,zA,w]
    exact q' β kx
   ·obtain ⟨b',d',e',hS',hN',q'⟩:=IH m b d0 (by omega) (by omega) hS hN
    refine ⟨b',d',by rw [e',e0],hS',hN',fun β kx=>?_⟩
    simp only [zce,zdZ,q0]
    rw [zaI (by omega),zhr,if_pos h0,zc6 b.g32,zac,za2 (by omega),zA,w]
    exact q' β kx
  ·obtain ⟨a,d1,e1,ha,q1⟩:=zJw (L+100) d0
   obtain ⟨r2,d2,e2,_,_,q2⟩:=zhz (L+100) d1 4 (by omega) (by omega)
   obtain ⟨b',d',e',hS',hN',q'⟩:=IH m (zkx b a (IntKind.wrap .u32 r2)).1 d2 (by omega) (by omega) (zCt hS _ _) (zEA hN ha _)
   refine ⟨b',d',by rw [e',e2,e1,e0],hS',hN',fun β kx=>?_⟩
   simp only [zce,zdZ,q0,q1,q2]
   rw [zaI (by omega),zhr,if_neg h0,xc (by rw [b.len]; omega),zA,b.take,b.dem,zIH L hL b hS,xc ⟨Bk.len _,by rw [b.len]; omega⟩,z34 _ b.len,zA,zA,w]
   exact q' β kx
theorem zJj (L:Nat) (hL:200000 < L) (d:Dk):∃ (b:Bk) (d':Dk),d'.l=d.l∧SndB b∧NnB b∧∀ (β:Type) (k:List V→List (List V)→Int→Option β),xd β (L+100) d.es d.a k=k b.v d'.es d'.a:=by
 obtain ⟨s,d1,e1,hs,q1⟩:=zJs (L+100) d
 obtain ⟨r,d2,e2,g1,g2,q2⟩:=zhz (L+100) d1 40 (by omega) (by omega)
 obtain ⟨c,rfl⟩:∃ c:Nat,r=c:=⟨r.toNat,by omega⟩
 obtain ⟨b',d',e',hS',hN',q'⟩:=zHM L hL c (L+100) (Bk.new s hs) d2 (by omega) (by omega) (zJp s hs) ⟨fun e he=>(by cases he),fun e he=>(by cases he)⟩
 refine ⟨b',d',by rw [e',e2,e1],hS',hN',fun β k=>?_⟩
 simp only [xd,zoW,zto,q1,q2]
 have es:xg (List.replicate 32 (V.sc (.int .u8 (0:Int)))++[(V.sl 5 ([]:List (List V))),(V.sl 5 ([]:List (List V)))]) 0 (row .u8 s)=(Bk.new s hs).v:=by
  rw [zGU _ _ _ (by simp [zcq,hs])]; rfl
 rw [xc (by rw [zcq,hs]; omega),es,xc ⟨Bk.len _,by omega⟩,z34 _ (by simp),zA]
 refine (q' β _).trans ?_
 unfold zj8
 rw [xc (by rw [b'.len]; omega),b'.take,xc ⟨b'.len,by rw [zEj]; omega⟩,z34 _ zEj,zA,xc ⟨rfl,b'.len,by omega⟩]
end
section
set_option linter.unusedVariables false
set_option linter.unusedSimpArgs false
set_option maxRecDepth 100000
variable {β:Type}
theorem zJc {β:Type} (L:Nat) (k:Bool→Option β):zd β (L+100) k=k true:=by kernel_rfl
theorem zG9 {β:Type} (L:Nat) (p:List (List V)) (k:List (List V)→Int→Option β):zc β L p k=k p 0:=rfl
theorem zH9 (k:List V→Int→Option β) (r:Lnk × Int):zGx k r=k r.1.v r.2:=rfl
theorem zEt (l:Lnk):List.take 4 l.v=l.v:=rfl
theorem z4 (l:Lnk):xg [(V.sc (.int .i64 (0:Int))),(V.sc (.int .u32 (0:Int))),(V.sc (.int .u16 (0:Int))),(V.sc (.int .u32 (0:Int)))] 0 l.v=l.v:=zda rfl
theorem zJf (l:Lnk):yl 4 1 (xg [(V.sc (.int .i64 (0:Int))),(V.sc (.int .u32 (0:Int))),(V.sc (.int .u16 (0:Int))),(V.sc (.int .u32 (0:Int)))] 0 l.v)=zaB [l]:=by
 rw [z4]; rfl
theorem zH8 (l m:List Lnk):zaB l++zaB m=zaB (l++m):=by simp [zaB]
structure LOk (ls:List Lnk):Prop where
 k:∀ e ∈ ls,1≤e.k∧e.k≤3
 g:ls.Pairwise (fun x y=>grp x.a≠grp y.a)
 n:ls.length≤8
theorem zDG (ls:List Lnk):∀ (n i:Nat),i+n=ls.length→(∀ j,i≤j→j < ls.length→snd ls j=true)→zBE ls i n=true
 | 0,i,_,_=>rfl
 | n+1,i,h,H=>by
  rw [zBE,H i (Nat.le_refl _) (by omega),zDG ls n (i+1) (by omega) (fun j h1 h2=>H j (by omega) h2)]; rfl
theorem LOk.lsound {ls:List Lnk} (h:LOk ls):zj0 ls=true:=by
 unfold zj0
 rw [decide_eq_true h.n,Bool.true_and]
 refine zDG ls ls.length 0 (by omega) (fun j _ hj=>?_)
 unfold snd
 rw [List.getElem?_eq_getElem hj]
 have h1:=h.k _ (List.getElem_mem hj)
 have h2:tkn (ls.take j) ls[j].a=false:=by
  unfold tkn
  rw [List.any_eq_false]
  intro x hx
  obtain ⟨i,hi,rfl⟩:=List.mem_take_iff_getElem.1 hx
  have:=List.pairwise_iff_getElem.1 h.g i j (by omega) hj (by omega)
  simpa using this
 simp only
 rw [decide_eq_true h1,h2]; rfl
theorem LOk.nil:LOk []:=⟨by simp,List.Pairwise.nil,by simp⟩
theorem LOk.snoc {ls:List Lnk} (h:LOk ls) {n:Lnk} (hk:1≤n.k∧n.k≤3) (ht:tkn ls n.a=false) (h8:ls.length < 8):LOk (ls++[n]):=by
 refine ⟨fun e he=>?_,?_,by simp; omega⟩
 ·rcases List.mem_append.1 he with he | he
  ·exact h.k e he
  ·simp at he; subst he; exact hk
 ·rw [List.pairwise_append]
  refine ⟨h.g,by simp,fun x hx y hy=>?_⟩
  simp at hy; subst hy
  unfold tkn at ht
  rw [List.any_eq_false] at ht
  simpa using ht x hx
theorem zIs (L:Nat) (ls:List Lnk) (hl:ls.length≤1000000) (k:List (List V)→Option β):yu β L (zaB ls) k=k (zaB ls):=by
 unfold yu zcS
 cases ls with
 | nil=>rfl
 | cons x l =>
  have e:zaB (x::l)=x.v::zaB l:=rfl
  have hn:(x.v::zaB l).length=l.length+1:=by rw [List.length_cons,zd0]
  have h4:∀ e ∈ zaB (x::l),e.length=4:=by
   intro e he
   obtain ⟨y,_,rfl⟩:=List.mem_map.1 he
   rfl
  simp only [List.length_cons] at hl
  rw [e]
  show chk _ (chk _ (k _))=_
  rw [xc (by rw [hn]; simp only [zs]; omega),xc (.inl (by rw [hn]; omega)),← e]
  have:=zxE h4 (w:=(zaB (x::l)).length) (Nat.le_refl _)
  rw [this,List.take_of_length_le (Nat.le_refl _)]
theorem zJO (L:Nat) (hL:1000 < L) (ls:List Lnk) (h:LOk ls) (n:Lnk) (hk:1≤n.k∧n.k≤3) (ht:tkn ls n.a=false) (h8:ls.length < 8) (k:List (List V)→Int→Option β):zj β L (zaB ls) n.v k=k (zaB (ls++[n])) 0:=by
 have e1:List.take 3 (List.drop 1 n.v)=n.a.v:=rfl
 unfold zj zoE
 rw [zCa L ls (by omega),h.lsound,Bool.not_true,zaQ,xI (n:=n.k) rfl,zEg,decide_eq_true hk,Bool.not_true,zaQ,xc (by show 1+3≤4; omega),e1,zsQ L ls (by omega) (by omega),ht,zaQ,zd0,za2 (by omega),zIs L ls (by omega),xc (by show 0+4≤4; omega),zEt,xc ⟨rfl,by omega⟩,zJf,zd0,zd0,xc (by simp only [zs,List.length_singleton]; omega),zA,zH8]
theorem zt9 {ls:List Lnk}:∀ {an:List Adr} {a:Adr},zb8 ls an=some a→tkn ls a=false
 | [],a,h=>by cases h
 | x::l,a,h=>by
  unfold zb8 at h
  split at h
  ·exact zt9 h
  ·rename_i hx; cases h; simpa using hx
theorem zCn {ls:List Lnk} {ps:List Plc} {a:Adr} (h:a ∈ ziP ls ps):tkn ls a=false∧∃ e ∈ ps,e.a=a:=by
 unfold ziP at h
 obtain ⟨e,he,rfl⟩:=List.mem_map.1 h
 have:=List.mem_filter.1 he
 exact ⟨by simpa using this.2,e,this.1,rfl⟩
theorem zHq {c:List Adr} (h:c≠[]) {draw:Int} (hd:0≤draw):zA6 c draw ∈ c:=by
 have hpos:0 < c.length:=List.length_pos_iff.2 h
 have h1:=Int.tmod_lt_of_pos draw (b:=(c.length:Int)) (by omega)
 have h2:=Int.tmod_nonneg (c.length:Int) hd
 unfold zA6
 rw [List.getD_eq_getElem?_getD,List.getElem?_eq_getElem (show (Int.tmod draw (c.length:Int)).toNat < c.length by omega)]
 exact List.getElem_mem _
def zFN (b:Bk) (an:List Adr) (a:Adr):Prop:=a ∈ an∨(∃ e ∈ b.H,e.a=a)∨∃ e ∈ b.T,e.a=a
theorem zvF {ls:List Lnk}:∀ {an:List Adr} {a:Adr},zb8 ls an=some a→a ∈ an
 | [],a,h=>by cases h
 | x::l,a,h=>by
  unfold zb8 at h
  split at h
  ·exact List.mem_cons_of_mem _ (zvF h)
  ·cases h; exact List.mem_cons_self
theorem zFU {b:Bk} {ls:List Lnk} {kd:Int} {a:Adr} (an:List Adr) (h:a ∈ zpa b.H b.T ls kd):tkn ls a=false∧zFN b an a:=by
 unfold zpa at h
 split at h
 ·obtain ⟨h1,e,he,rfl⟩:=zCn h
  refine ⟨h1,?_⟩
  rcases List.mem_append.1 he with he | he
  ·exact .inr (.inr ⟨e,he,rfl⟩)
  ·exact .inr (.inl ⟨e,he,rfl⟩)
 ·split at h
  ·obtain ⟨h1,e,he,rfl⟩:=zCn h
   exact ⟨h1,.inr (.inl ⟨e,he,rfl⟩)⟩
  ·cases h
inductive Chosen (b:Bk) (an:List Adr) (ls:List Lnk):Lnk × Int→Prop
 | full:Chosen b an ls (Lnk0,380)
 | none:Chosen b an ls (Lnk0,390)
 | some (n:Lnk) (hk:1≤n.k∧n.k≤3) (ht:tkn ls n.a=false) (h8:ls.length < 8) (hf:n.k=3→cnt 3 ls=0) (ha:zFN b an n.a):Chosen b an ls (n,0)
theorem zyU (b:Bk) (an:List Adr) (ls:List Lnk) (kd draw:Int) (hd:0≤draw) (h8:ls.length < 8) (hk:1≤kd∧kd≤3) (hf:kd=3→cnt 3 ls=0):Chosen b an ls (ztW b ls kd draw):=by
 unfold ztW
 split
 ·exact .none
 ·rename_i hne
  have:=zFU an (zHq hne hd)
  exact .some _ hk this.1 h8 hf this.2
theorem zxD (b:Bk) (an:List Adr) (ls:List Lnk) (draw:Int) (hd:0≤draw) (h8:ls.length < 8):Chosen b an ls (zq7 b ls draw):=by
 unfold zq7
 split
 ·split
  ·exact .full
  ·rename_i h3
   exact zyU b an ls 3 draw hd h8 ⟨by omega,by omega⟩ (fun _=>by omega)
 ·exact zyU b an ls 2 draw hd h8 ⟨by omega,by omega⟩ (fun h=>by omega)
theorem zDP (b:Bk) (an:List Adr) (ls:List Lnk) (h:LOk ls) (draw:Int) (hd:0≤draw):Chosen b an ls (zfj true b an ls draw):=by
 unfold zfj
 rw [if_neg (by rw [h.lsound]; simp),if_neg (by simp)]
 split
 ·exact .full
 ·rename_i h8
  split
  ·split
   ·rename_i a ha
    exact .some ⟨1,a⟩ ⟨by show (1:Int)≤1; omega,by show (1:Int)≤3; omega⟩ (zt9 ha) (by omega) (fun h=>by simp at h) (.inl (zvF ha))
   ·exact zxD b an ls draw hd (by omega)
  ·exact zxD b an ls draw hd (by omega)
theorem zIC (kd:Int) (ls:List Lnk) (n:Lnk):cnt kd (ls++[n])=cnt kd ls+if n.k=kd then 1 else 0:=by
 induction ls with
 | nil=>simp [cnt]
 | cons x l ih=>simp only [List.cons_append,cnt,ih]; omega
structure Grown (b:Bk) (an:List Adr) (ls:List Lnk):Prop where
 o:LOk ls
 f:cnt 3 ls≤1
 a:∀ e ∈ ls,zFN b an e.a
theorem Grown.nil (b:Bk) (an:List Adr):Grown b an []:=⟨LOk.nil,by simp [cnt],by simp⟩
theorem Grown.snoc {b:Bk} {an:List Adr} {ls:List Lnk} (h:Grown b an ls) {n:Lnk} (hk:1≤n.k∧n.k≤3) (ht:tkn ls n.a=false) (h8:ls.length < 8) (hf:n.k=3→cnt 3 ls=0) (ha:zFN b an n.a):Grown b an (ls++[n]):=by
 refine ⟨h.o.snoc hk ht h8,?_,fun e he=>?_⟩
 ·rw [zIC]
  have:=h.f
  split
  ·rename_i h3; rw [hf h3]; omega
  ·omega
 ·rcases List.mem_append.1 he with he | he
  ·exact h.a e he
  ·simp at he; subst he; exact ha
theorem zHc (L:Nat) (hL:5000000 < L) (b:Bk) (hS:SndB b) (an:List Adr) (ha:an.length≤10):∀ (m i:Nat) (ls:List Lnk) (d:Dk),20 - i < m→ls.length=i→i≤8→Grown b an ls→∃ (ls':List Lnk),Grown b an (ls++ls')∧(ls=[]→ls'≠[]∨zb8 [] an=none)∧(ls=[]→∀ a,zb8 [] an=some a→ls'.head?=some ⟨1,a⟩) ∧
  ∀ (β:Type) (kr:List (List V)→Bool→List (List V)→Int→Option β) (kx:List (List V)→List (List V)→Int→Option β) (k:List (List V)→Bool→Option β),(∀ x y u v,kr x y u v=k x y)→zci zc za xb zj (L+100) kr kx m (zeN an) (zaB ls) (i:Int) b.v d.es d.a=k (zaB (ls++ls')) true:=by
 have hH:=hS.lenH
 have hT:=hS.lenT
 have hA:∀ (β:Type) (k:Bool→Option β),xl β (L+100) b.v k=k true:=fun β k=>by rw [zKb L b (by omega) (by omega) (by omega),zH4,(ztC b).2 hS]
 intro m
 induction m with
 | zero=>intro i ls d h1; omega
 | succ m IH =>
  intro i ls d h1 hi h8 hG
  obtain ⟨r,d1,e1,g1,g2,q1⟩:=zhz (L+100) d 1048576 (by omega) (by omega)
  have hw:IntKind.wrap .u64 r=r:=zDW (by omega) (by omega)
  have hsp:=zDP b an ls hG.o r g1
  have hch:∀ (β:Type) (k:List V→Int→Option β),xb β (L+100) b.v (zeN an) (zaB ls) r k=k (zfj true b an ls r).1.v (zfj true b an ls r).2:=fun β k=>by
   rw [zJa (L+100) b (by omega) (by omega) (by omega) true (hA β) an (by omega) ls (by omega) r g1,zH9]
  have zsF:∀ (β:Type) (kr:List (List V)→Bool→List (List V)→Int→Option β) (kx:List (List V)→List (List V)→Int→Option β),zci zc za xb zj (L+100) kr kx (m+1) (zeN an) (zaB ls) (i:Int) b.v d.es d.a =
    ifb ((zfj true b an ls r).2 != 0) (ifb ((zfj true b an ls r).2 == 390) (kr (zaB ls) true d1.es d1.a) (kr (zaB ls) ((zfj true b an ls r).2 == 380) d1.es d1.a))
     (zj β (L+100) (zaB ls) (zfj true b an ls r).1.v (fun v9 v10=>ifb ((v10:Int) != (0:Int)) (kr (zaB ls) false d1.es d1.a) (zci zc za xb zj (L+100) kr kx m (zeN an) v9 (((i+1:Nat):Int)) b.v d1.es d1.a))):=by
   intro β kr kx
   simp only [zci,zj1,q1,zA]
   rw [zaI (by omega),xc (by rw [b.len]; omega),b.take,b.dem,hw,hch,xc ⟨rfl,by omega⟩,z4,xc (by show 0+4≤4; omega),zEt,zab (by omega)]
  have hff:ls=[]→∀ a,zb8 [] an=some a→zfj true b an ls r=(⟨1,a⟩,0):=by
   intro hl a hfa
   subst hl
   unfold zfj
   rw [if_neg (by rw [LOk.nil.lsound]; simp),if_neg (by simp),if_neg (by simp),if_pos (by simp [cnt]),hfa]
  generalize zfj true b an ls r=c at hsp zsF hff
  cases hsp with
  | full =>
   refine ⟨[],by rw [List.append_nil]; exact hG,fun hl=>.inr ?_,fun hl a hfa=>?_,fun β kr kx k hk=>?_⟩
   ·cases hfa:zb8 [] an with
    | none=>rfl
    | some a=>have:=hff hl a hfa; simp at this
   ·have:=hff hl a hfa; simp at this
   ·rw [zsF,List.append_nil]; exact hk _ _ _ _
  | none =>
   refine ⟨[],by rw [List.append_nil]; exact hG,fun hl=>.inr ?_,fun hl a hfa=>?_,fun β kr kx k hk=>?_⟩
   ·cases hfa:zb8 [] an with
    | none=>rfl
    | some a=>have:=hff hl a hfa; simp at this
   ·have:=hff hl a hfa; simp at this
   ·rw [zsF,List.append_nil]; exact hk _ _ _ _
  | some n hkd ht hl8 hf hfr =>
   obtain ⟨ls',G',_,_,q'⟩:=IH (i+1) (ls++[n]) d1 (by omega) (by simp; omega) (by omega) (hG.snoc hkd ht hl8 hf hfr)
   rw [List.append_assoc] at G'
   refine ⟨n::ls',G',fun _=>.inl (by simp),fun hl a hfa=>?_,fun β kr kx k hk=>?_⟩
   ·have:=hff hl a hfa
    simp only [Prod.mk.injEq] at this
    rw [this.1]; rfl
   ·rw [zsF]
    have h0:((0:Int) != 0)=false:=rfl
    simp only [h0]
    rw [zaQ,zJO _ (by omega) ls hG.o n hkd ht hl8,h0,zaQ]
    have:=q' β kr kx k hk
    rw [List.append_assoc] at this
    exact this
theorem zJi (L:Nat) (hL:5000000 < L) (b:Bk) (hS:SndB b) (an:List Adr) (ha:an.length≤10) (dr:List Int) (hdr:dr.length≤9223372036854775807):∃ (ls:List Lnk),Grown b an ls∧(ls≠[]∨zb8 [] an=none)∧(∀ a,zb8 [] an=some a→ls.head?=some ⟨1,a⟩) ∧
  ∀ (β:Type) (k:List (List V)→Bool→Option β),zl β (L+100) b.v (zeN an) (zaP .i64 dr) k=k (zaB ls) true:=by
 obtain ⟨ls,h1,h2,h3,h4⟩:=zHc L hL b hS an ha (L+100) 0 [] ⟨dr,0,by omega,by omega,hdr⟩ (by omega) rfl (by omega) (Grown.nil b an)
 rw [List.nil_append] at h1
 refine ⟨ls,h1,h2 rfl,h3 rfl,fun β k=>?_⟩
 unfold zl znl zrf
 rw [zG9]
 refine (h4 β _ _ k (fun x y u v=>rfl)).trans ?_
 rw [List.nil_append]
end
section
set_option linter.unusedVariables false
set_option linter.unusedSimpArgs false
set_option maxRecDepth 100000
variable {β:Type}
theorem zJ6 (l:Lnk):List.take 3 (List.drop 1 l.v)=l.a.v:=rfl
theorem zFi:∀ (n:Nat) (l:List Lnk),(∀ e ∈ l,0≤grp e.a∧grp e.a < n)→l.Pairwise (fun x y=>grp x.a≠grp y.a)→l.length≤n
 | 0,l,h,_=>by
  cases l with
  | nil=>simp
  | cons x l=>have:=h x (by simp); omega
 | n+1,l,h,hp=>by
  have ih:=zFi n (l.filter (fun e=>!(grp e.a == (n:Int)))) (fun e he=>by
   have h1:=List.mem_filter.1 he
   have h2:=h e h1.1
   have h3:¬ grp e.a=n:=by simpa using h1.2
   omega) (hp.sublist List.filter_sublist)
  have h1:(l.filter (fun e=>grp e.a == (n:Int))).length≤1:=by
   have hs:=hp.sublist (List.filter_sublist (p:=fun e=>grp e.a == (n:Int)) (l:=l))
   have hm:∀ e ∈ l.filter (fun e=>grp e.a == (n:Int)),grp e.a=n:=fun e he=>by simpa using (List.mem_filter.1 he).2
   generalize l.filter (fun e=>grp e.a == (n:Int))=f at hs hm
   match f with
   | []=>simp
   | [x]=>simp
   | x::y::f =>
    have:=(List.pairwise_cons.1 hs).1 y (by simp)
    exact absurd ((hm x (by simp)).trans (hm y (by simp)).symm) this
  have h2:l.length=(l.filter (fun e=>grp e.a == (n:Int))).length+(l.filter (fun e=>!(grp e.a == (n:Int)))).length:=by
   clear ih h h1 hp
   induction l with
   | nil=>rfl
   | cons x l ih=>by_cases hx:grp x.a=n <;> simp [hx] <;> omega
  omega
def zxi (r:Int) (ls:List Lnk):Nat:=(ls.filter (fun e=>decide (grp e.a < r))).length
theorem zJo (r:Int) (ls:List Lnk):zxi r ls≤ls.length:=List.length_filter_le _ _
theorem zG3 (r:Int) {ls:List Lnk} {i:Nat} (h:i < ls.length):zxi r (ls.take (i+1))=zxi r (ls.take i)+if grp ls[i].a < r then 1 else 0:=by
 unfold zxi
 rw [List.take_succ_eq_append_getElem h,List.filter_append,List.length_append]
 by_cases hh:grp ls[i].a < r <;> simp [hh]
theorem zHX (L:Nat) (r:Int) (h0:0≤r) (h7:r < 7) (ok:Bool) (ls:List Lnk) (h8:ls.length≤8) (e0:List (List V)) (e1:Int) (kx:Int→Bool→Int→List (List V)→Int→Option β):∀ (m i:Nat),i≤ls.length→ls.length - i < m →
  za6 zd zc xd zl yi yb L kx m r ok ((zxi r (ls.take i):Nat):Int) (zaB ls) ((ls.length:Nat):Int) (i:Int) e0 e1=kx r ok ((zxi r ls:Nat):Int) e0 e1:=by
 intro m
 induction m with
 | zero=>intro i h1 h2; omega
 | succ m IH =>
  intro i h1 h2
  unfold za6 zdl
  by_cases h:i < ls.length
  ·have hc:=zG3 r h
   have hcl:=zJo r (ls.take i)
   have hl:(ls.take i).length=i:=by rw [List.length_take]; omega
   have ih:=IH (i+1) (by omega) (by omega)
   rw [zaI (by omega),za3 (zrN h),zEt,xc ⟨rfl,by omega⟩,z4,zA,xc (by show 1+3≤4; omega),zJ6,zrS,zA,zIp h0 (by omega),zaq]
   by_cases h3:grp ls[i].a < r
   ·rw [if_pos h3] at hc
    rw [hc] at ih
    rw [if_pos h3,zA,zA,zab (by omega),zab (by omega)]
    exact ih
   ·rw [if_neg h3,Nat.add_zero] at hc
    rw [hc] at ih
    rw [if_neg h3,zA,zab (by omega)]
    exact ih
  ·rw [za2 (by omega),List.take_of_length_le (by omega)]
theorem zJ9 {a:Adr} (h:0≤a.h):0≤grp a:=by
 unfold grp znO
 exact Int.fdiv_nonneg h (by decide)
theorem zI0 (r:Int) (h0:0≤r) {ls:List Lnk} (hg:ls.Pairwise (fun x y=>grp x.a≠grp y.a)) (hn:∀ e ∈ ls,0≤grp e.a):(zxi r ls:Int)≤r:=by
 obtain ⟨n,rfl⟩:∃ n:Nat,r=n:=⟨r.toNat,by omega⟩
 have:=zFi n (ls.filter (fun e=>decide (grp e.a < (n:Int)))) (fun e he=>by
  have h1:=List.mem_filter.1 he
  exact ⟨hn e h1.1,by simpa using h1.2⟩) (hg.sublist List.filter_sublist)
 unfold zxi
 omega
theorem zve (a0 a1:List (List V)) (a2:Int) (hl0:a0.length≤maxLen) (wf0:∀ e ∈ a0,HasRow [.int .i64] e) (hl1:a1.length≤maxLen) (wf1:∀ e ∈ a1,HasRow [.int .i64] e) (wf2:(Lit.int .i64 a2).wf=true) :
  ∃ L,∀ k:Bool→Option Bool,zb6 Bool L a0 a1 a2 k=k true:=by
 obtain ⟨l,rfl,_⟩:=zBI wf0
 obtain ⟨dr,rfl,_⟩:=zBI wf1
 rw [zeJ] at hl0 hl1
 obtain ⟨L,hL⟩:∃ L:Nat,6000000≤L:=⟨6000000,Nat.le_refl _⟩
 refine ⟨L+100,fun k=>?_⟩
 obtain ⟨b,d1,e1,hS,hN,q1⟩:=zJj L (by omega) ⟨l,0,by omega,by omega,by unfold maxLen at hl0; omega⟩
 obtain ⟨ls,hG,_,_,q4⟩:=zJi L (by omega) b hS [] (by simp) dr (by unfold maxLen at hl1; omega)
 obtain ⟨r,h0,h7,q5⟩:=zGV (L+100) a2 7 (by omega) (by omega)
 simp only [Dk.es] at q1
 have en:([]:List (List V))=zeN []:=rfl
 unfold zb6 zd9 zgD
 rw [zJc,Bool.not_true,zaQ,zG9,q1,xc ⟨b.len,by omega⟩,z34 _ (by simp),zA,xc (by rw [b.len]; omega),b.take,b.dem]
 refine (q4 _ _).trans ?_
 rw [q5,zd0]
 refine (zHX (L+100) r h0 h7 true ls hG.o.n _ _ _ (L+100) 0 (by omega) (by have:=hG.o.n; omega)).trans ?_
 unfold zcT
 rw [zeE,decide_eq_true (zI0 r h0 hG.o.g (fun e he=>zJ9 ?_))]
 rcases hG.a e he with h | ⟨x,hx,h⟩ | ⟨x,hx,h⟩
 ·cases h
 ·rw [← h]; exact hN.1 x hx
 ·rw [← h]; exact hN.2 x hx
end
section
namespace connectEclipseL
open Go.ChangeShapes Go.WideShapes Go.ChangeAt Go.RowKit
set_option linter.unusedVariables false
theorem own:ownKnob Try.prog.godebug=none:=by kernel_rfl
theorem zBm:laidOutB Try.prog=true:=by kernel_rfl
set_option maxRecDepth 100000 in
theorem zJ4 (os:Os) (started:os.Started) (H:Type) (enc:TypeId × Value→H) :
  ReturnsInHanded {} Try.checked os 6 .any (Rows.connectEclipseSpec.pre6 enc Try.prog Try.f6 Rows.connectEclipseRow.domain false) (Rows.connectEclipseSpec.post enc Try.prog Try.f6 false true false false):=by
 refine returnsInHanded_of_change (C:=Try.checked) own started (by kernel_rfl) Try.func6
  (ChangeSpec.witness6 (enc:=enc) (C:=Try.checked) false ⟨#[],#[.slice none 0 0,.slice none 0 0,.int .i64 0],[]⟩ 8 (by kernel_rfl) (by kernel_rfl) (by kernel_rfl) (by kernel_rfl)) ?_
 intro W base args ds gs before hval0 hW hcnd _
 have hval:∀ (j:Nat) t v,Try.f6.params[j]?=some t→args[j]?=some v→Value.okWide Try.prog W .any base t v:=hval0
 have hW':=hW
 obtain ⟨p,q,hA0,hV,rfl,hfz,hnd⟩:=hW
 have hA:DataW.TrodAll enc Try.prog W 0 (fun _=>true) true Try.f6.params.toList args.toList ds p:=hA0
 rw [Try.params6] at hA hval
 obtain ⟨v0,vs0,d0,ds0,p0,q0,hargs,rfl,rfl,h0,r0⟩:=trodAll_cons hA
 obtain ⟨v1,vs1,d1,ds1,p1,q1,rfl,rfl,rfl,h1,r1⟩:=trodAll_cons r0
 obtain ⟨v2,vs2,d2,ds2,p2,q2,rfl,rfl,rfl,h2,r2⟩:=trodAll_cons r1
 obtain ⟨rfl,rfl,rfl⟩:=trodAll_nil r2
 obtain rfl:args=#[v0,v1,v2]:=by cases args; simp_all
 obtain ⟨rfl,rfl⟩:=trodVars_none hV
 have k0:=h0
 have lt0:∀ x ∈ p0,x.block < W.heap.size:=by obtain ⟨m,hm⟩:=k0; exact DataW.trod_lt m _ _ _ hm
 have k1:=h1
 have lt1:∀ x ∈ p1,x.block < W.heap.size:=by obtain ⟨m,hm⟩:=k1; exact DataW.trod_lt m _ _ _ hm
 have k2:=h2
 have lt2:∀ x ∈ p2,x.block < W.heap.size:=by obtain ⟨m,hm⟩:=k2; exact DataW.trod_lt m _ _ _ hm
 obtain ⟨A0,len0,cap0,rfl⟩:=okWide_slice Try.underlying22 (hval 0 22 v0 rfl rfl)
 obtain ⟨x0,hx0,rp0⟩:=zFn (r:=.any) (b0:=base) (ren:=zE fg) (d:=20) (ct:=.sl ([.int .i64])) rfl h0 (by kernel_rfl)
 obtain ⟨a0,rfl,hl0,wf0⟩:=hx0.sl_inv
 obtain ⟨A1,len1,cap1,rfl⟩:=okWide_slice Try.underlying22 (hval 1 22 v1 rfl rfl)
 obtain ⟨x1,hx1,rp1⟩:=zFn (r:=.any) (b0:=base) (ren:=zE fg) (d:=20) (ct:=.sl ([.int .i64])) rfl h1 (by kernel_rfl)
 obtain ⟨a1,rfl,hl1,wf1⟩:=hx1.sl_inv
 obtain ⟨a2,rfl,rfl,rfl,wf2⟩:=open_int Try.underlying3 (hval 2 3 v2 rfl rfl) h2
 clear hA0 hval0
 obtain ⟨L,hL⟩:=zve a0 a1 a2 hl0 wf0 hl1 wf1 wf2
 obtain ⟨v,b,hev,hk⟩:=zrt L 100 (by decide) Bool [(V.sl 1 a0),(V.sl 1 a1),(V.sc (.int .i64 a2))] [] zDt true (hL (fun p=>zDt (V.sc (.bool p)) []))
 have hv:=zHl hk
 subst hv
 refine (zGl (us:=[.slice A0 len0 cap0,.slice A1 len1 cap1,.int .i64 a2]) (w:=W) (zKj L 100) (f:=6) (by kernel_rfl) rfl (fun i x u hx hu=>?_) hev).mono fun e W' ⟨he,bel0⟩=>?_
 ·match i,hx,hu with
  | 0,hx,hu=>cases hx; cases hu; exact rp0
  | 1,hx,hu=>cases hx; cases hu; exact rp1
  | 2,hx,hu=>cases hx; cases hu; exact .sc _ rfl
  | n+3,hx,hu=>simp at hx
 ·have bel:=Kept.below bel0
  subst he
  exact ⟨_,rfl,_,_,_,[],_,[],hW',trodAll_mk1 (shut_bool Try.underlying4 _),(trodAll_cons_mk (Below.trod zBm (by kernel_rfl) (of_decide_eq_true (by kernel_rfl)) k0 bel lt0) (trodAll_cons_mk (Below.trod zBm (by kernel_rfl) (of_decide_eq_true (by kernel_rfl)) k1 bel lt1) (trodAll_cons_mk (Below.trod zBm (by kernel_rfl) (of_decide_eq_true (by kernel_rfl)) k2 bel lt2) trodAll_mk0))),rfl,bel.frame _,fun h=>by cases h⟩
theorem over:Rows.connectEclipseRow.holds Try.pinned (OpenSpec.ofChange Rows.connectEclipseSpec) :=
 OpenClaim.holds_of_wide 6 Try.f6 rfl rfl rfl rfl rfl rfl rfl ⟨rfl,rfl,rfl,rfl,rfl⟩ rfl rfl rfl rfl rfl (by kernel_rfl) Try.func6 (by kernel_rfl)
  (of_decide_eq_true (by kernel_rfl)) (by unfold Func.isWrapper; first | (rw [if_pos (by decide +kernel)]; kernel_rfl) | (rw [if_neg (by decide +kernel)]; exact ⟨rfl,rfl⟩))
  (fun os started H enc _=>zJ4 os started H enc)
end connectEclipseL
theorem connectEclipse_holds:Rows.ConnectEclipseSaid:=connectEclipseL.over
end
end Go.Proofs.Ytpafdnidhnldhaa
