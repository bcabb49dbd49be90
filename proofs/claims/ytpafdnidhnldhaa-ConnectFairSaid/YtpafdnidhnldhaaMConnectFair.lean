/- ConnectFair: for every input the call returns true, and each argument reads afterwards as it read before. No condition. -/
import Derived.Test.YtpafdnidhnldhaaMConnectFair12
namespace Go.Proofs.Ytpafdnidhnldhaa
section
set_option linter.unusedVariables false
set_option linter.unusedSimpArgs false
set_option maxRecDepth 100000
theorem zJJ (L:Nat) (v n:Int) (hn:1≤n) (hn2:n≤1000000000000):∃ r,0≤r∧r < n∧∀ (β:Type) (k:Int→Option β),zo β L v n k=k r:=by
 by_cases h:Int.tmod v n < 0
 ·have h1:=Int.lt_tmod_of_pos v (show 0 < n by omega)
  refine ⟨Int.tmod v n+n,by omega,by omega,fun β k=>?_⟩
  simp only [zo,zqI,yx]
  rw [xc (by omega),zaQ h,y7 (by omega) (by omega)]
 ·have h1:=Int.tmod_lt_of_pos v (show 0 < n by omega)
  refine ⟨Int.tmod v n,by omega,h1,fun β k=>?_⟩
  simp only [zo,zqI,yx]
  rw [xc (by omega),za6 h]
structure Dk where
 l:List Int
 a:Int
 h0:0≤a
 h1:a≤l.length
 hl:l.length≤9223372036854775807
def Dk.es (d:Dk):List (List V):=zaO .i64 d.l
theorem zio (L:Nat) (d:Dk) (n:Int) (hn:1≤n) (hn2:n≤1000000000000):∃ (r:Int) (d':Dk),d'.l=d.l∧0≤r∧r < n∧∀ (β:Type) (k:Int→List (List V)→Int→Option β),ya β L n d.es d.a k=k r d'.es d'.a:=by
 obtain ⟨l,a,h0,h1,hl⟩:=d
 simp only [Dk.es]
 by_cases h:a < l.length
 ·obtain ⟨i,rfl⟩:∃ i:Nat,a=i:=⟨a.toNat,by omega⟩
  have hi:i < l.length:=by omega
  obtain ⟨r,q1,q2,q3⟩:=zJJ L l[i] n hn hn2
  refine ⟨r,⟨l,i+1,by omega,by omega,hl⟩,rfl,q1,q2,fun β k=>?_⟩
  simp only [ya,zhO,xS,zia,yx,zew]
  have w1:IntKind.wrap .i64 ((i:Int)+1)=(i:Int)+1:=y7 (by omega) (by omega)
  have w2:IntKind.wrap .i64 ((i:Int)+1 - 1)=(i:Int):=by rw [y7 (by omega) (by omega)]; omega
  rw [zzh,if_pos (by omega),w1,w2,zaZ (zy7 _ hi),xI (by rfl),q3]
 ·refine ⟨0,⟨l,a,h0,h1,hl⟩,rfl,by omega,by omega,fun β k=>?_⟩
  simp only [ya,zhO,xS,zia,yx,zew]
  rw [zzh,if_neg (by omega)]
theorem zIV (L:Nat) (d:Dk):∃ (id:List Int) (d':Dk),d'.l=d.l∧id.length=32∧∀ (β:Type) (k:List V→List (List V)→Int→Option β),zA β L d.es d.a k=k (row .u8 id) d'.es d'.a:=by
 obtain ⟨r,d1,e1,_,_,q1⟩:=zio L d 5 (by omega) (by omega)
 obtain ⟨s,d2,e2,_,_,q2⟩:=zio L d1 7 (by omega) (by omega)
 refine ⟨IntKind.wrap .u8 r::(List.replicate 30 0++[IntKind.wrap .u8 s]),d2,by rw [e2,e1],by simp,fun β k=>?_⟩
 simp only [zA,zsC,q1,q2,yx]
 rw [xc (by simp)]
 rfl
theorem zI5 (n:Int):0≤IntKind.wrap .u32 n:=by
 unfold IntKind.wrap
 simp only [IntKind.signed,Bool.false_and,Bool.false_eq_true,if_false,IntKind.bits]
 exact Int.emod_nonneg n (by decide)
theorem zIE (L:Nat) (d:Dk):∃ (a:Adr) (d':Dk),d'.l=d.l∧0≤a.h∧∀ (β:Type) (k:List V→List (List V)→Int→Option β),xf β L d.es d.a k=k a.v d'.es d'.a:=by
 obtain ⟨r1,d1,e1,_,_,q1⟩:=zio L d 6 (by omega) (by omega)
 obtain ⟨r2,d2,e2,_,_,q2⟩:=zio L d1 5 (by omega) (by omega)
 obtain ⟨r3,d3,e3,_,_,q3⟩:=zio L d2 2 (by omega) (by omega)
 obtain ⟨r4,d4,e4,_,_,q4⟩:=zio L d3 50 (by omega) (by omega)
 refine ⟨⟨IntKind.wrap .u32 (zrq .u32 (IntKind.wrap .u32 r1) 16+IntKind.wrap .u32 r2),IntKind.wrap .u16 r3,IntKind.wrap .u32 r4⟩,d4,by rw [e4,e3,e2,e1],zI5 _,fun β k=>?_⟩
 simp only [xf,zsW,q1,q2,q3,q4,yx]
 rw [xc (by simp)]
 rfl
theorem zHb (A B r:List V) (h:A.length=r.length):xg (A++B) 0 r=r++B:=by
 unfold xg
 rw [List.take_zero,Nat.zero_add,List.drop_left' h,List.nil_append]
def Bk.new (s:List Int) (h:s.length=32):Bk:=⟨s,[],[],h⟩
theorem zI3 (s:List Int) (h:s.length=32):SndB (Bk.new s h):=⟨TOk.nil _ _,TOk.nil _ _,fun x hx=>by cases hx⟩
def z34g:List V:=List.replicate 32 (V.sc (.int .u8 (0:Int)))++[(V.gs 5 ([]:List (List V))),(V.gs 5 ([]:List (List V)))]
theorem zDm:z34g.length=34:=by simp [z34g]
theorem zHm {b:Bk} {i:Nat} (hi:i < b.H.length):∃ j:Nat,j < b.H.length∧zex (fun x=>yJ x.a b.H[i].a) b.H 0=(j:Int):=by
 refine zyT ?_
 have:=zFa (fun x:Plc=>yJ x.a b.H[i].a) b.H 0
 have h2:b.H.any (fun x=>yJ x.a b.H[i].a)=true:=List.any_eq_true.2 ⟨b.H[i],List.getElem_mem hi,zuU _⟩
 rw [h2] at this
 exact of_decide_eq_true this
theorem zGt (L:Nat) (hL:200000 < L):∀ (c m:Nat) (b:Bk) (d:Dk),c < m→c≤1000→SndB b→NnB b→∃ (b':Bk) (d':Dk),d'.l=d.l∧SndB b'∧NnB b'∧∀ (β:Type) (kx:List (List V)→Int→List V→List V→Option β),zca zA ya zy xf zu (L+100) kx m (c:Int) d.es d.a z34g b.v=kx d'.es d'.a z34g b'.v:=by
 intro c
 induction c with
 | zero =>
  intro m b d hm hc hS hN
  refine ⟨b,d,rfl,hS,hN,fun β kx=>?_⟩
  obtain ⟨m,rfl⟩:∃ q,m=q+1:=⟨m - 1,by omega⟩
  simp only [zca,zdN]
  rw [za6 (by omega)]
 | succ c IH =>
  intro m b d hm hc hS hN
  obtain ⟨m,rfl⟩:∃ q,m=q+1:=⟨m - 1,by omega⟩
  have hH:=hS.lenH
  have w:IntKind.wrap .i64 (((c+1:Nat):Int) - 1)=(c:Int):=by rw [y7 (by omega) (by omega)]; omega
  obtain ⟨r0,d0,e0,g1,g2,q0⟩:=zio (L+100) d 4 (by omega) (by omega)
  by_cases h0:r0=0
  ·by_cases hp:0 < b.H.length
   ·obtain ⟨r1,d1,e1,g3,g4,q1⟩:=zio (L+100) d0 (b.H.length:Int) (by omega) (by omega)
    obtain ⟨i,rfl⟩:∃ i:Nat,r1=i:=⟨r1.toNat,by omega⟩
    have hi:i < b.H.length:=by omega
    obtain ⟨j,hj,hf⟩:=zHm hi
    obtain ⟨b',d',e',hS',hN',q'⟩:=IH m (zuE b j b.H[j]) d1 (by omega) (by omega) (zGS hS hj) (zH5 hN hj)
    refine ⟨b',d',by rw [e',e1,e0],hS',hN',fun β kx=>?_⟩
    simp only [zca,zdN,q0]
    rw [zaQ (by omega),zdT,if_pos h0,zb9 b.g32,xZ,zaQ (by omega),xc (by rw [b.len]; omega),zb9 b.g32,zb9 b.g32,xZ,q1,zaZ (zct hi),b.take,b.dem,p13,zJk L hL b hS _ j hj hf,xc ⟨Bk.len _,by rw [b.len]; omega⟩,z34 _ b.len,yx,yx,w]
    exact q' β kx
   ·obtain ⟨b',d',e',hS',hN',q'⟩:=IH m b d0 (by omega) (by omega) hS hN
    refine ⟨b',d',by rw [e',e0],hS',hN',fun β kx=>?_⟩
    simp only [zca,zdN,q0]
    rw [zaQ (by omega),zdT,if_pos h0,zb9 b.g32,xZ,za6 (by omega),yx,w]
    exact q' β kx
  ·obtain ⟨a,d1,e1,ha,q1⟩:=zIE (L+100) d0
   obtain ⟨r2,d2,e2,_,_,q2⟩:=zio (L+100) d1 4 (by omega) (by omega)
   obtain ⟨b',d',e',hS',hN',q'⟩:=IH m (zkk b a (IntKind.wrap .u32 r2)).1 d2 (by omega) (by omega) (zCf hS _ _) (zDn hN ha _)
   refine ⟨b',d',by rw [e',e2,e1,e0],hS',hN',fun β kx=>?_⟩
   simp only [zca,zdN,q0,q1,q2]
   rw [zaQ (by omega),zdT,if_neg h0,xc (by rw [b.len]; omega),yx,b.take,b.dem,zH3 L hL b hS,xc ⟨Bk.len _,by rw [b.len]; omega⟩,z34 _ b.len,yx,yx,w]
   exact q' β kx
theorem zIO (L:Nat) (hL:200000 < L) (d:Dk):∃ (b:Bk) (d':Dk),d'.l=d.l∧SndB b∧NnB b∧∀ (β:Type) (k:List V→List (List V)→Int→Option β),xd β (L+100) d.es d.a k=k b.v d'.es d'.a:=by
 obtain ⟨s,d1,e1,hs,q1⟩:=zIV (L+100) d
 obtain ⟨r,d2,e2,g1,g2,q2⟩:=zio (L+100) d1 40 (by omega) (by omega)
 obtain ⟨c,rfl⟩:∃ c:Nat,r=c:=⟨r.toNat,by omega⟩
 obtain ⟨b',d',e',hS',hN',q'⟩:=zGt L hL c (L+100) (Bk.new s hs) d2 (by omega) (by omega) (zI3 s hs) ⟨fun e he=>(by cases he),fun e he=>(by cases he)⟩
 refine ⟨b',d',by rw [e',e2,e1],hS',hN',fun β k=>?_⟩
 simp only [xd,zoV,zta,q1,q2]
 have es:xg (List.replicate 32 (V.sc (.int .u8 (0:Int)))++[(V.sl 5 ([]:List (List V))),(V.sl 5 ([]:List (List V)))]) 0 (row .u8 s)=(Bk.new s hs).v:=by
  rw [zHb _ _ _ (by simp [zcl,hs])]; rfl
 rw [xc (by rw [zcl,hs]; omega),es,xc ⟨Bk.len _,by omega⟩,z34 _ (by simp),yx]
 refine (q' β _).trans ?_
 unfold zjH
 rw [xc (by rw [b'.len]; omega),b'.take,xc ⟨b'.len,by rw [zDm]; omega⟩,z34 _ zDm,yx,xc ⟨rfl,b'.len,by omega⟩]
end
section
set_option linter.unusedVariables false
set_option linter.unusedSimpArgs false
set_option maxRecDepth 100000
variable {β:Type}
theorem zIR {β:Type} (L:Nat) (k:Bool→Option β):yc β (L+100) k=k true:=by kernel_rfl
theorem zJG {β:Type} (L:Nat) (p:List (List V)) (k:List (List V)→Int→Option β):yd β L p k=k p 0:=rfl
theorem zIi (k:List V→Int→Option β) (r:Lnk × Int):zFp k r=k r.1.v r.2:=rfl
theorem z4 (l:Lnk):xg [(V.sc (.int .i64 (0:Int))),(V.sc (.int .u32 (0:Int))),(V.sc (.int .u16 (0:Int))),(V.sc (.int .u32 (0:Int)))] 0 l.v=l.v:=zc3 rfl
structure LOk (ls:List Lnk):Prop where
 k:∀ e ∈ ls,1≤e.k∧e.k≤3
 g:ls.Pairwise (fun x y=>grp x.a≠grp y.a)
 n:ls.length≤8
theorem zEd (ls:List Lnk):∀ (n i:Nat),i+n=ls.length→(∀ j,i≤j→j < ls.length→snd ls j=true)→zA4 ls i n=true
 | 0,i,_,_=>rfl
 | n+1,i,h,H=>by
  rw [zA4,H i (Nat.le_refl _) (by omega),zEd ls n (i+1) (by omega) (fun j h1 h2=>H j (by omega) h2)]; rfl
theorem LOk.lsound {ls:List Lnk} (h:LOk ls):znF ls=true:=by
 unfold znF
 rw [decide_eq_true h.n,Bool.true_and]
 refine zEd ls ls.length 0 (by omega) (fun j _ hj=>?_)
 unfold snd
 rw [List.getElem?_eq_getElem hj]
 have h1:=h.k _ (List.getElem_mem hj)
 have h2:tkn (ls.take j) ls[j].a=false:=by
  unfold tkn
  rw [List.any_eq_false]
  intro x hx
  obtain ⟨i,hi,rfl⟩:=List.mem_take_iff_getElem.1 hx
  have:=List.pairwise_iff_getElem.1 h.g i j (by omega) hj (by omega)
  simpa using this
 simp only
 rw [decide_eq_true h1,h2]; rfl
theorem LOk.nil:LOk []:=⟨by simp,List.Pairwise.nil,by simp⟩
theorem LOk.snoc {ls:List Lnk} (h:LOk ls) {n:Lnk} (hk:1≤n.k∧n.k≤3) (ht:tkn ls n.a=false) (h8:ls.length < 8):LOk (ls++[n]):=by
 refine ⟨fun e he=>?_,?_,by simp; omega⟩
 ·rcases List.mem_append.1 he with he | he
  ·exact h.k e he
  ·simp at he; subst he; exact hk
 ·rw [List.pairwise_append]
  refine ⟨h.g,by simp,fun x hx y hy=>?_⟩
  simp at hy; subst hy
  unfold tkn at ht
  rw [List.any_eq_false] at ht
  simpa using ht x hx
def zIe (b:Bk) (an:List Adr) (a:Adr):Prop:=a ∈ an∨(∃ e ∈ b.H,e.a=a)∨∃ e ∈ b.T,e.a=a
inductive Chosen (b:Bk) (an:List Adr) (ls:List Lnk):Lnk × Int→Prop
 | full:Chosen b an ls (Lnk0,380)
 | none:Chosen b an ls (Lnk0,390)
 | some (n:Lnk) (hk:1≤n.k∧n.k≤3) (ht:tkn ls n.a=false) (h8:ls.length < 8) (hf:n.k=3→cnt 3 ls=0) (ha:zIe b an n.a):Chosen b an ls (n,0)
theorem zIh (kd:Int) (ls:List Lnk) (n:Lnk):cnt kd (ls++[n])=cnt kd ls+if n.k=kd then 1 else 0:=by
 induction ls with
 | nil=>simp [cnt]
 | cons x l ih=>simp only [List.cons_append,cnt,ih]; omega
structure Grown (b:Bk) (an:List Adr) (ls:List Lnk):Prop where
 o:LOk ls
 f:cnt 3 ls≤1
 a:∀ e ∈ ls,zIe b an e.a
theorem Grown.nil (b:Bk) (an:List Adr):Grown b an []:=⟨LOk.nil,by simp [cnt],by simp⟩
theorem Grown.snoc {b:Bk} {an:List Adr} {ls:List Lnk} (h:Grown b an ls) {n:Lnk} (hk:1≤n.k∧n.k≤3) (ht:tkn ls n.a=false) (h8:ls.length < 8) (hf:n.k=3→cnt 3 ls=0) (ha:zIe b an n.a):Grown b an (ls++[n]):=by
 refine ⟨h.o.snoc hk ht h8,?_,fun e he=>?_⟩
 ·rw [zIh]
  have:=h.f
  split
  ·rename_i h3; rw [hf h3]; omega
  ·omega
 ·rcases List.mem_append.1 he with he | he
  ·exact h.a e he
  ·simp at he; subst he; exact ha
end
section
set_option linter.unusedVariables false
set_option linter.unusedSimpArgs false
set_option maxRecDepth 100000
variable {β:Type}
def zet (h:Nat→Nat):Nat→Nat
 | 0=>0
 | n+1=>zet h n+h n
theorem zz5 {h h':Nat→Nat}:∀ {n:Nat},(∀ j,j < n→h j=h' j)→zet h n=zet h' n
 | 0,_=>rfl
 | n+1,H=>by rw [zet,zet,zz5 (fun j hj=>H j (by omega)),H n (by omega)]
theorem zAM (h:Nat→Nat):∀ n:Nat,zet h (n+1)=h 0+zet (fun j=>h (j+1)) n
 | 0=>by simp [zet]
 | n+1=>by rw [zet,zAM h n]; simp only [zet]; omega
theorem zDZ (g:Nat→Nat) (n:Nat):∀ f:Nat,zet (fun j=>g ((f+j) % n)) n=zet g n
 | 0=>zz5 (fun j hj=>by show g ((0+j) % n)=g j; rw [Nat.zero_add,Nat.mod_eq_of_lt hj])
 | f+1=>by
  have h1:=zAM (fun j=>g ((f+j) % n)) n
  have h2:zet (fun j=>g ((f+j) % n)) (n+1)=zet (fun j=>g ((f+j) % n)) n+g ((f+n) % n):=rfl
  have h3:(fun j=>g ((f+1+j) % n))=fun j=>g ((f+(j+1)) % n):=by
   funext j; rw [show f+1+j=f+(j+1) by omega]
  rw [h3,← zDZ g n f]
  have h4:(f+n) % n=f % n:=Nat.add_mod_right f n
  rw [h4] at h2
  simp only [Nat.add_zero] at h1
  omega
theorem zBE (h:Nat→Nat) (h1:∀ j,h j≤1):∀ n:Nat,zet h n≤n
 | 0=>Nat.le_refl _
 | n+1=>by have:=zBE h h1 n; have:=h1 n; rw [zet]; omega
def gI (c:List Adr) (evil:Int) (j:Nat):Nat:=if Int.tmod (grp (c.getD j ⟨0,0,0⟩)) 3=Int.tmod evil 3 then 1 else 0
theorem zIx (c:List Adr) (evil:Int) (j:Nat):gI c evil j≤1:=by unfold gI; split <;> omega
theorem zFr (b:Bk) (draw:Int) (c:List Adr) (hc:c=(b.T++b.H).map Plc.a) (hne:c≠[]):zxt true b [] [] draw=(⟨2,zxx c draw⟩,0):=by
 have e:zlH b.H b.T [] 2=c:=by
  rw [hc,zlH,if_pos rfl,ziz]
  congr 1
  exact List.filter_eq_self.2 (fun x _=>rfl)
 unfold zxt ztq zxl
 rw [if_neg (by rw [LOk.nil.lsound]; simp),if_neg (by simp),if_neg (by simp),if_pos (by simp [cnt]),if_neg (by simp [cnt]),e,if_neg hne]
 rfl
theorem zJw (c:List Adr) (f i:Nat):zxx c (((f+i:Nat):Int))=c.getD ((f+i) % c.length) ⟨0,0,0⟩:=by
 unfold zxx
 rw [← Int.ofNat_tmod,Int.toNat_natCast]
theorem zIP (a:Adr):List.take 3 a.v=a.v:=rfl
theorem zFe (l:Lnk):List.take 3 (List.drop 1 l.v)=l.a.v:=rfl
theorem zGv (L:Nat) (hL:5000000 < L) (b:Bk) (hS:SndB b) (c:List Adr) (hc:c=(b.T++b.H).map Plc.a) (hcl:c.length≤2000) (first evil:Int) (f:Nat) (hf:Int.tmod first 1152921504606846976=f) (hf2:f < 1152921504606846976) (e0:List (List V)) (e1:Int) (kr:Bool→List (List V)→Int→Option β) (kx:zg4 β):∀ (m i:Nat),i≤c.length→c.length - i < m →
  zaP yc yd xd za xb yb (L+100) kr kx m first evil (zfo c) ((zet (gI c evil) i:Nat):Int) ((zet (fun j=>gI c evil ((f+j) % c.length)) i:Nat):Int) ((c.length:Nat):Int) (i:Int) b.v e0 e1
   = kx (zfo c) ((zet (gI c evil) c.length:Nat):Int) ((zet (fun j=>gI c evil ((f+j) % c.length)) c.length:Nat):Int) b.v e0 e1:=by
 have hH:=hS.lenH
 have hT:=hS.lenT
 have hA:∀ (k:Bool→Option β),xk β (L+100) b.v k=k true:=fun k=>by rw [zJD L b (by omega) (by omega) (by omega),zIo,(zs7 b).2 hS]
 intro m
 induction m with
 | zero=>intro i h1 h2; omega
 | succ m IH =>
  intro i h1 h2
  by_cases h:i < c.length
  ·have hne:c≠[]:=by intro e; rw [e] at h; simp at h
   have s1:=zBE (gI c evil) (zIx c evil) i
   have s2:=zBE (fun j=>gI c evil ((f+j) % c.length)) (fun j=>zIx c evil _) i
   have ih:=IH (i+1) (by omega) (by omega)
   simp only [zet] at ih
   have en:([]:List (List V))=zfo []:=rfl
   have en2:([]:List (List V))=zdS []:=rfl
   have hd:IntKind.wrap .u64 (Int.tmod first 1152921504606846976+IntKind.wrap .u64 (i:Int))=((f+i:Nat):Int):=by
    rw [zzc (n:=(i:Int)) (by omega) (by omega),hf,zzc (by omega) (by omega)]; omega
   have hch:∀ (k:List V→Int→Option β),xb β (L+100) b.v [] [] (((f+i:Nat):Int)) k=k (⟨2,c.getD ((f+i) % c.length) ⟨0,0,0⟩⟩:Lnk).v 0:=fun k=>by
    have:=zJd (L+100) b (by omega) (by omega) (by omega) true hA [] (by simp) [] (by simp) (((f+i:Nat):Int)) (by omega) k
    rw [zFr b _ c hc hne,zIi,zJw] at this
    exact this
   have g1:(List.getD c i ⟨0,0,0⟩)=c[i]:=by rw [List.getD_eq_getElem?_getD,List.getElem?_eq_getElem h]; rfl
   unfold zaP zco
   rw [zaQ (by omega),xc (by rw [b.len]; omega),yx,yx,yx,hd,b.take,b.dem,hch,xc ⟨rfl,by omega⟩,z4,yx,zmC,if_pos rfl,xI (n:=2) rfl,zmC,if_pos rfl,zaZ (zy4 h),zIP,zlT,yx,yx,zdT]
   have w:IntKind.wrap .i64 ((i:Int)+1)=((i+1:Nat):Int):=zag (by omega)
   have w1:IntKind.wrap .i64 (((zet (gI c evil) i:Nat):Int)+1)=((zet (gI c evil) i+1:Nat):Int):=zag (by omega)
   have w2:IntKind.wrap .i64 (((zet (fun j=>gI c evil ((f+j) % c.length)) i:Nat):Int)+1)=((zet (fun j=>gI c evil ((f+j) % c.length)) i+1:Nat):Int):=zag (by omega)
   generalize hx:c.getD ((f+i) % c.length) ⟨0,0,0⟩=x at ih ⊢
   have e1':gI c evil i=if Int.tmod (grp c[i]) 3=Int.tmod evil 3 then 1 else 0:=by unfold gI; rw [g1]
   have e2':gI c evil ((f+i) % c.length)=if Int.tmod (grp x) 3=Int.tmod evil 3 then 1 else 0:=by unfold gI; rw [hx]
   rw [e1',e2'] at ih
   by_cases q1:Int.tmod (grp c[i]) 3=Int.tmod evil 3
   ·rw [if_pos q1] at ih
    rw [if_pos q1,yx,w1,xc (by show 1+3≤4; omega),zFe,zlT,yx,yx,zdT]
    by_cases q2:Int.tmod (grp x) 3=Int.tmod evil 3
    ·rw [if_pos q2] at ih
     rw [if_pos q2,yx,yx,w2,w]
     exact ih
    ·rw [if_neg q2] at ih
     rw [if_neg q2,yx,w]
     exact ih
   ·rw [if_neg q1] at ih
    rw [if_neg q1,xc (by show 1+3≤4; omega),zFe,zlT,yx,yx,zdT]
    by_cases q2:Int.tmod (grp x) 3=Int.tmod evil 3
    ·rw [if_pos q2] at ih
     rw [if_pos q2,yx,yx,w2,w]
     exact ih
    ·rw [if_neg q2] at ih
     rw [if_neg q2,yx,w]
     exact ih
  ·have:i=c.length:=by omega
   subst this
   unfold zaP zco
   rw [za6 (by omega)]
theorem zxX (a0:List (List V)) (a1 a2:Int) (hl0:a0.length≤maxLen) (wf0:∀ e ∈ a0,HasRow [.int .i64] e) (wf1:(Lit.int .u64 a1).wf=true) (wf2:(Lit.int .u32 a2).wf=true) :
  ∃ L,∀ k:Bool→Option Bool,zcJ Bool L a0 a1 a2 k=k true:=by
 obtain ⟨l,rfl,_⟩:=zE1 wf0
 rw [zew] at hl0
 obtain ⟨L,hL⟩:∃ L:Nat,6000000≤L:=⟨6000000,Nat.le_refl _⟩
 refine ⟨L+100,fun k=>?_⟩
 obtain ⟨b,d1,e1,hS,hN,q1⟩:=zIO L (by omega) ⟨l,0,by omega,by omega,by unfold maxLen at hl0; omega⟩
 have hH:=hS.lenH
 have hT:=hS.lenT
 simp only [Dk.es] at q1
 have hcand:∀ k:List (List V)→Option Bool,za Bool (L+100) b.v [] 2 k=k (zfo ((b.T++b.H).map Plc.a)):=fun k=>by
  have:=zDV (L+100) [] (by simp) (by simp <;> omega) b.v b.H b.T (by omega) (by omega) (by omega) (by omega) b.g32 b.g33 2 k
  have e:zlH b.H b.T [] 2=(b.T++b.H).map Plc.a:=by
   rw [zlH,if_pos rfl,ziz]
   congr 1
   exact List.filter_eq_self.2 (fun x _=>rfl)
  rw [e] at this
  exact this
 have hw:=zJQ wf1
 have t1:=Int.tmod_nonneg 1152921504606846976 hw.1
 have t2:=Int.tmod_lt_of_pos a1 (show (0:Int) < 1152921504606846976 by decide)
 obtain ⟨f,hf⟩:∃ f:Nat,Int.tmod a1 1152921504606846976=f:=⟨(Int.tmod a1 1152921504606846976).toNat,by omega⟩
 have hlen:((b.T++b.H).map Plc.a).length=b.T.length+b.H.length:=by simp
 unfold zcJ zfH ziJ
 rw [zIR,Bool.not_true,zb1,zJG,q1,xc ⟨b.len,by omega⟩,z34 _ (by simp),yx,xc (by rw [b.len]; omega),b.take,b.dem,hcand,zrM]
 refine (zGv L (by omega) b hS _ rfl (by omega) a1 a2 f hf (by omega) _ _ _ _ (L+100) 0 (by omega) (by omega)).trans ?_
 unfold zdm
 rw [zDZ,zdT,if_pos rfl,zb9 b.g32,zb9 b.g33,xZ,xZ,yx,y7 (by omega) (by omega),zrM,hlen]
 congr 1
 rw [beq_iff_eq]
 omega
end
section
namespace connectFairL
open Go.ChangeShapes Go.WideShapes Go.ChangeAt Go.RowKit
set_option linter.unusedVariables false
theorem own:ownKnob Try.prog.godebug=none:=by kernel_rfl
theorem zA8:laidOutB Try.prog=true:=by kernel_rfl
set_option maxRecDepth 100000 in
theorem zJN (os:Os) (started:os.Started) (H:Type) (enc:TypeId × Value→H) :
  ReturnsInHanded {} Try.checked os 5 .any (Rows.connectFairSpec.pre6 enc Try.prog Try.f5 Rows.connectFairRow.domain false) (Rows.connectFairSpec.post enc Try.prog Try.f5 false true false false):=by
 refine returnsInHanded_of_change (C:=Try.checked) own started (by kernel_rfl) Try.func5
  (ChangeSpec.witness6 (enc:=enc) (C:=Try.checked) false ⟨#[],#[.slice none 0 0,.int .u64 0,.int .u32 0],[]⟩ 8 (by kernel_rfl) (by kernel_rfl) (by kernel_rfl) (by kernel_rfl)) ?_
 intro W base args ds gs before hval0 hW hcnd _
 have hval:∀ (j:Nat) t v,Try.f5.params[j]?=some t→args[j]?=some v→Value.okWide Try.prog W .any base t v:=hval0
 have hW':=hW
 obtain ⟨p,q,hA0,hV,rfl,hfz,hnd⟩:=hW
 have hA:DataW.TrodAll enc Try.prog W 0 (fun _=>true) true Try.f5.params.toList args.toList ds p:=hA0
 rw [Try.params5] at hA hval
 obtain ⟨v0,vs0,d0,ds0,p0,q0,hargs,rfl,rfl,h0,r0⟩:=trodAll_cons hA
 obtain ⟨v1,vs1,d1,ds1,p1,q1,rfl,rfl,rfl,h1,r1⟩:=trodAll_cons r0
 obtain ⟨v2,vs2,d2,ds2,p2,q2,rfl,rfl,rfl,h2,r2⟩:=trodAll_cons r1
 obtain ⟨rfl,rfl,rfl⟩:=trodAll_nil r2
 obtain rfl:args=#[v0,v1,v2]:=by cases args; simp_all
 obtain ⟨rfl,rfl⟩:=trodVars_none hV
 have k0:=h0
 have lt0:∀ x ∈ p0,x.block < W.heap.size:=by obtain ⟨m,hm⟩:=k0; exact DataW.trod_lt m _ _ _ hm
 have k1:=h1
 have lt1:∀ x ∈ p1,x.block < W.heap.size:=by obtain ⟨m,hm⟩:=k1; exact DataW.trod_lt m _ _ _ hm
 have k2:=h2
 have lt2:∀ x ∈ p2,x.block < W.heap.size:=by obtain ⟨m,hm⟩:=k2; exact DataW.trod_lt m _ _ _ hm
 obtain ⟨A0,len0,cap0,rfl⟩:=okWide_slice Try.underlying22 (hval 0 22 v0 rfl rfl)
 obtain ⟨x0,hx0,rp0⟩:=zI4 (r:=.any) (b0:=base) (ren:=zE fg) (d:=20) (ct:=.sl ([.int .i64])) rfl h0 (by kernel_rfl)
 obtain ⟨a0,rfl,hl0,wf0⟩:=hx0.sl_inv
 obtain ⟨a1,rfl,rfl,rfl,wf1⟩:=open_int Try.underlying23 (hval 1 23 v1 rfl rfl) h1
 obtain ⟨a2,rfl,rfl,rfl,wf2⟩:=open_int Try.underlying37 (hval 2 37 v2 rfl rfl) h2
 clear hA0 hval0
 obtain ⟨L,hL⟩:=zxX a0 a1 a2 hl0 wf0 wf1 wf2
 obtain ⟨v,b,hev,hk⟩:=zuh L 100 (by decide) Bool [(V.sl 1 a0),(V.sc (.int .u64 a1)),(V.sc (.int .u32 a2))] [] zDi true (hL (fun p=>zDi (V.sc (.bool p)) []))
 have hv:=zGW hk
 subst hv
 refine (zFR (us:=[.slice A0 len0 cap0,.int .u64 a1,.int .u32 a2]) (w:=W) (zKe L 100) (f:=5) (by kernel_rfl) rfl (fun i x u hx hu=>?_) hev).mono fun e W' ⟨he,bel0⟩=>?_
 ·match i,hx,hu with
  | 0,hx,hu=>cases hx; cases hu; exact rp0
  | 1,hx,hu=>cases hx; cases hu; exact .sc _ rfl
  | 2,hx,hu=>cases hx; cases hu; exact .sc _ rfl
  | n+3,hx,hu=>simp at hx
 ·have bel:=Kept.below bel0
  subst he
  exact ⟨_,rfl,_,_,_,[],_,[],hW',trodAll_mk1 (shut_bool Try.underlying4 _),(trodAll_cons_mk (Below.trod zA8 (by kernel_rfl) (of_decide_eq_true (by kernel_rfl)) k0 bel lt0) (trodAll_cons_mk (Below.trod zA8 (by kernel_rfl) (of_decide_eq_true (by kernel_rfl)) k1 bel lt1) (trodAll_cons_mk (Below.trod zA8 (by kernel_rfl) (of_decide_eq_true (by kernel_rfl)) k2 bel lt2) trodAll_mk0))),rfl,bel.frame _,fun h=>by cases h⟩
theorem over:Rows.connectFairRow.holds Try.pinned (OpenSpec.ofChange Rows.connectFairSpec) :=
 OpenClaim.holds_of_wide 5 Try.f5 rfl rfl rfl rfl rfl rfl rfl ⟨rfl,rfl,rfl,rfl,rfl⟩ rfl rfl rfl rfl rfl (by kernel_rfl) Try.func5 (by kernel_rfl)
  (of_decide_eq_true (by kernel_rfl)) (by unfold Func.isWrapper; first | (rw [if_pos (by decide +kernel)]; kernel_rfl) | (rw [if_neg (by decide +kernel)]; exact ⟨rfl,rfl⟩))
  (fun os started H enc _=>zJN os started H enc)
end connectFairL
theorem connectFair_holds:Rows.ConnectFairSaid:=connectFairL.over
end
end Go.Proofs.Ytpafdnidhnldhaa
