/- FeesOrder: for every input the call returns true, and each argument reads afterwards as it read before. No condition. -/
import Derived.Test.YthplooifbkopgaaMFeesOrder9
namespace Go.Proofs.Ythplooifbkopgaa
section
set_option linter.unusedVariables false
set_option linter.unusedSimpArgs false
set_option maxRecDepth 100000
variable {β:Type}
theorem zhi (L:Nat) (v n:Int) (hn:1≤n) (hn2:n≤1000000000000):∃ r,0≤r∧r < n∧∀ (β:Type) (k:Int→Option β),yc β L v n k=k r:=by
 by_cases h:Int.tmod v n < 0
 ·have h1:=Int.lt_tmod_of_pos v (show 0 < n by omega)
  refine ⟨Int.tmod v n+n,by omega,by omega,fun β k=>?_⟩
  simp only [yc,zfQ,y7]
  rw [xo (by omega),zaO h,zF (by omega) (by omega)]
 ·have h1:=Int.tmod_lt_of_pos v (show 0 < n by omega)
  refine ⟨Int.tmod v n,by omega,h1,fun β k=>?_⟩
  simp only [yc,zfQ,y7]
  rw [xo (by omega),zbl h]
structure Dk where
 l:List Int
 a:Int
 h0:0≤a
 h1:a≤l.length
 hl:l.length≤9223372036854775807
def Dk.es (d:Dk):List (List V):=ziI .i64 d.l
theorem zdQ (L:Nat) (d:Dk) (n:Int) (hn:1≤n) (hn2:n≤1000000000000):∃ (r:Int) (d':Dk),d'.l=d.l∧0≤r∧r < n∧∀ (β:Type) (k:Int→List (List V)→Int→Option β),za β L n d.es d.a k=k r d'.es d'.a:=by
 obtain ⟨l,a,h0,h1,hl⟩:=d
 simp only [Dk.es]
 by_cases h:a < l.length
 ·obtain ⟨i,rfl⟩:∃ i:Nat,a=i:=⟨a.toNat,by omega⟩
  have hi:i < l.length:=by omega
  obtain ⟨r,q1,q2,q3⟩:=zhi L l[i] n hn hn2
  refine ⟨r,⟨l,i+1,by omega,by omega,hl⟩,rfl,q1,q2,fun β k=>?_⟩
  simp only [za,zb7,zq,zb1,y7,zjO]
  have w1:IntKind.wrap .i64 ((i:Int)+1)=(i:Int)+1:=zF (by omega) (by omega)
  have w2:IntKind.wrap .i64 ((i:Int)+1 - 1)=(i:Int):=by rw [zF (by omega) (by omega)]; omega
  rw [zkf,if_pos (by omega),w1,w2,zhl (zqo _ hi),zcX (by rfl),q3]
 ·refine ⟨0,⟨l,a,h0,h1,hl⟩,rfl,by omega,by omega,fun β k=>?_⟩
  simp only [za,zb7,zq,zb1,y7,zjO]
  rw [zkf,if_neg (by omega)]
theorem znP (L:Nat) (d:Dk):∃ (id:List Int) (d':Dk),d'.l=d.l∧id.length=32∧∀ (β:Type) (k:List V→List (List V)→Int→Option β),zc β L d.es d.a k=k (row .u8 id) d'.es d'.a:=by
 obtain ⟨r,d1,e1,_,_,q1⟩:=zdQ L d 5 (by omega) (by omega)
 obtain ⟨s,d2,e2,_,_,q2⟩:=zdQ L d1 7 (by omega) (by omega)
 refine ⟨IntKind.wrap .u8 r::(List.replicate 30 0++[IntKind.wrap .u8 s]),d2,by rw [e2,e1],by simp,fun β k=>?_⟩
 simp only [zc,zgX,q1,q2,y7]
 rw [xo (by simp)]
 rfl
theorem zo1 (L:Nat) (hL:1000 < L) (d:Dk) (n:Int) (hn:0≤n) (hn2:n≤900):∃ (hs:List (List Int)) (d':Dk),d'.l=d.l∧(∀ h ∈ hs,h.length=32)∧hs.length≤n∧∀ (β:Type) (k:List (List V)→List (List V)→Int→Option β),xf β L n d.es d.a k=k (hs.map (row .u8)) d'.es d'.a:=by
 have loop:∀ (c:Nat) (m:Nat) (hs:List (List Int)) (d:Dk),c < m→(∀ h ∈ hs,h.length=32)→hs.length+c≤1000→∃ (hs':List (List Int)) (d':Dk),d'.l=d.l∧(∀ h ∈ hs',h.length=32)∧hs'.length=hs.length+c∧∀ (β:Type) (kx:List (List V)→List (List V)→Int→Option β),z6 za zc L kx m (hs.map (row .u8)) (c:Int) d.es d.a=kx (hs'.map (row .u8)) d'.es d'.a:=by
  intro c
  induction c with
  | zero =>
   intro m hs d hm h1 h2
   refine ⟨hs,d,rfl,h1,rfl,fun β kx=>?_⟩
   obtain ⟨m,rfl⟩:∃ q,m=q+1:=⟨m - 1,by omega⟩
   simp only [z6,zbm]
   rw [zbl (by omega)]
  | succ c ih =>
   intro m hs d hm h1 h2
   obtain ⟨m,rfl⟩:∃ q,m=q+1:=⟨m - 1,by omega⟩
   obtain ⟨id,d1,e1,hid,q1⟩:=znP L d
   obtain ⟨hs',d2,e2,g1,g2,g3⟩:=ih m (hs++[id]) d1 (by omega) (by intro x hx; rcases List.mem_append.1 hx with h | h; exact h1 x h; simp at h; rw [h]; exact hid) (by simp; omega)
   refine ⟨hs',d2,by rw [e2,e1],g1,by rw [g2]; simp; omega,fun β kx=>?_⟩
   simp only [z6,zbm,q1,y7]
   have es:xh (List.replicate 32 (V.sc (.int .u8 0))) 0 (row .u8 id)=row .u8 id:=zmd (by simp [yO,hid])
   have ec:yh 32 1 (row .u8 id)=[row .u8 id]:=by simp [yh,List.take_of_length_le,yO,hid]
   rw [zaO (by omega),xo (by simp [yO,hid]),es,ec,xo (by simp [xm]; omega)]
   rw [show IntKind.wrap .i64 (((c+1:Nat):Int) - 1)=(c:Int) by rw [zF (by omega) (by omega)]; omega]
   have:=g3 β kx
   simp only [List.map_append,List.map_cons,List.map_nil] at this
   exact this
 obtain ⟨r,d1,e1,h1,h2,q1⟩:=zdQ L d (n+1) (by omega) (by omega)
 obtain ⟨c,rfl⟩:∃ c:Nat,r=c:=⟨r.toNat,by omega⟩
 obtain ⟨hs',d2,e2,g1,g2,g3⟩:=loop c L [] d1 (by omega) (by simp) (by simp; omega)
 refine ⟨hs',d2,by rw [e2,e1],g1,by simp at g2; omega,fun β k=>?_⟩
 simp only [xf,zds,zfz,y7]
 rw [zF (by omega) (by omega),q1]
 exact g3 β _
structure Smp where
 id:List Int
 c:Int
 s:Int
 f:Int
 hid:id.length=32
def Smp.row (x:Smp):List V:=Go.Proofs.Ythplooifbkopgaa.row .u8 x.id++[.sc (.int .i64 x.c),.sc (.int .i64 x.s),.sc (.int .i64 x.f)]
theorem Smp.len (x:Smp):x.row.length=35:=by simp [Smp.row,yO,x.hid]
theorem Smp.g32 (x:Smp):x.row[32]?=some (.sc (.int .i64 x.c)):=by simp [Smp.row,yO,x.hid]
theorem Smp.g33 (x:Smp):x.row[33]?=some (.sc (.int .i64 x.s)):=by simp [Smp.row,yO,x.hid]
theorem Smp.g34 (x:Smp):x.row[34]?=some (.sc (.int .i64 x.f)):=by simp [Smp.row,yO,x.hid]
theorem Smp.take (x:Smp):x.row.take 35=x.row:=List.take_of_length_le (by rw [x.len]; omega)
theorem Smp.take32 (x:Smp):x.row.take 32=Go.Proofs.Ythplooifbkopgaa.row .u8 x.id:=by
 rw [Smp.row,List.take_append_of_le_length (by rw [yO,x.hid]; omega),List.take_of_length_le (by rw [yO,x.hid]; omega)]
def Smp.at (x:Smp) (v:Int):Smp:=⟨x.id,x.c,x.s,v,x.hid⟩
theorem Smp.set34 (x:Smp) (v:Int):x.row.set 34 (.sc (.int .i64 v))=(x.at v).row:=by
 simp only [Smp.row,Smp.at]
 rw [List.set_append_right _ _ (by rw [yO,x.hid]; omega),yO,x.hid]
 rfl
theorem zll {z:List V} (hz:z.length=35) (x:Smp):xh z 0 x.row=x.row:=zmd (by rw [x.len,hz])
def yv (l:List Smp):List (List V):=l.map Smp.row
theorem zaU (l:List Smp):(yv l).length=l.length:=by simp [yv]
theorem zcG {l:List Smp} {i:Nat} (h:i < l.length):(yv l)[i]?=some l[i].row:=by simp [yv,h]
theorem zbp (l:List Smp):∀ e ∈ yv l,e.length=35:=by
 intro e he
 obtain ⟨x,_,rfl⟩:=List.mem_map.1 he
 exact x.len
theorem zm9 (l:List Smp) (i:Nat) (x:Smp):(yv l).set i x.row=yv (l.set i x):=by simp [yv,List.map_set]
theorem zqc (l m:List Smp):yv l++yv m=yv (l++m):=by simp [yv]
theorem zgu (l:List Smp):(yv l).flatten.length=l.length * 35:=by rw [znf (zbp l),zaU]
theorem znl {l:List Smp} {i:Nat} (h:i < l.length):List.take 35 (List.drop (i * 35) (yv l).flatten)=l[i].row:=by
 rw [zlZ (zbp l) (by omega) (zcG h),l[i].take]
theorem zqR {l:List Smp} {i:Nat} (h:i < l.length):List.take 32 (List.drop (i * 35) (yv l).flatten)=row .u8 l[i].id:=by
 rw [zlZ (zbp l) (by omega) (zcG h),l[i].take32]
theorem zq6 {l:List Smp} {i:Nat} (h:i < l.length):(yv l).flatten[i * 35+33]?=some (.sc (.int .i64 l[i].s)):=by rw [znj (by omega) (zbp l) (by omega) (zcG h)]; exact l[i].g33
theorem zqD {l:List Smp} {i:Nat} (h:i < l.length):(yv l).flatten[i * 35+34]?=some (.sc (.int .i64 l[i].f)):=by rw [znj (by omega) (zbp l) (by omega) (zcG h)]; exact l[i].g34
theorem zqM {l:List Smp} {i:Nat} (h:i < l.length) (v:Int):xh (yv l).flatten (i * 35+34) [V.sc (.int .i64 v)]=(yv (l.set i (l[i].at v))).flatten:=by
 rw [zqr (by omega) (zbp l) (by omega) (zcG h),l[i].set34,zm9]
theorem zpH {sz:Nat} {es:List (List V)} (h:∀ e ∈ es,e.length=sz) {i:Nat} (hi:i < es.length) {new:List V} (hn:new.length=sz):xh es.flatten (i * sz) new=(es.set i new).flatten:=by
 unfold xh
 rw [zkK h,hn,show i * sz+sz=(i+1) * sz by rw [Nat.add_mul]; omega,ziu h,List.set_eq_take_append_cons_drop,if_pos hi]
 simp
theorem znq {l:List Smp} {i:Nat} (h:i < l.length) (x:Smp):xh (yv l).flatten (i * 35) x.row=(yv (l.set i x)).flatten:=by
 rw [zpH (zbp l) (by rw [zaU]; exact h) x.len,zm9]
def zsj:Smp:=⟨List.replicate 32 0,0,0,0,by simp⟩
theorem zrt {hs:List (List Int)} {j:Nat} (h:j < hs.length):(hs.map (row IntKind.u8))[j]?=some (row .u8 hs[j]):=by simp [h]
theorem zkX {id:List Int} (h:id.length=32):List.take 32 (row .u8 id)=row .u8 id:=List.take_of_length_le (by rw [yO,h]; omega)
def cfS (hs:List (List Int)) (ht:Int) (x:Smp):Smp:=if x.f=0∧x.s < ht∧x.id ∈ hs then x.at ht else x
theorem zp6 {hs:List (List Int)} {h:List Int} {ht:Int} {x:Smp}:cfS (h::hs) ht x=if x.id=h∧x.f=0∧x.s < ht then cfS hs ht (x.at ht) else cfS hs ht x:=by
 by_cases c:x.id=h∧x.f=0∧x.s < ht
 ·rw [if_pos c]
  have e1:cfS (h::hs) ht x=x.at ht:=by unfold cfS; rw [if_pos ⟨c.2.1,c.2.2,by simp [c.1]⟩]
  rw [e1]
  unfold cfS
  split
  ·rfl
  ·rfl
 ·rw [if_neg c]
  unfold cfS
  by_cases d:x.f=0∧x.s < ht
  ·have hne:x.id≠h:=fun e=>c ⟨e,d⟩
   simp [d.1,d.2,hne]
  ·rw [if_neg (fun q=>d ⟨q.1,q.2.1⟩),if_neg (fun q=>d ⟨q.1,q.2.1⟩)]
theorem zfF (L:Nat) (hs:List (List Int)) (hh:∀ x ∈ hs,x.length=32) (hhl:hs.length≤1000) (ht:Int) (n i:Nat) (hi:i < n) (kx:List (List V)→Int→Nat→Int→List V→Option β):∀ (m j:Nat) (l:List Smp) (hl:l.length=n),j≤hs.length→hs.length - j < m →
  zD L kx m (hs.map (row .u8)) ht n (i:Int) (j:Int) (yv l).flatten=kx (hs.map (row .u8)) ht n (i:Int) (yv (l.set i (cfS (hs.drop j) ht (l[i]'(by omega))))).flatten
 | 0,j,l,h1,h2,h3=>by omega
 | m+1,j,l,h1,h2,h3=>by
  have hil:i < l.length:=by omega
  by_cases h:j < hs.length
  ·have hid:=hh _ (List.getElem_mem h)
   have hfl:=zgu l
   have hle:(i+1) * 35≤l.length * 35:=Nat.mul_le_mul_right _ hil
   have r1:=zfF L hs hh hhl ht n i hi kx m (j+1) l h1 (by omega) (by omega)
   have r2:=zfF L hs hh hhl ht n i hi kx m (j+1) (l.set i (l[i].at ht)) (by simp [h1]) (by omega) (by omega)
   rw [List.drop_eq_getElem_cons h,zp6]
   simp only [zD,xZ,y7,List.length_map,Nat.zero_add,Nat.add_zero,Int.toNat_natCast,zd2 (show j≤1000000000 by omega)]
   rw [zaO (by omega),xo (by omega),xo (by omega),zhl (zrt h),zqR hil,zkX hid,znO .u8 l[i].hid hid,zaK]
   rw [xo (by omega),zcX (zqD hil),zlD,xo (by omega),zcX (zq6 hil),zaK,xo (by omega),xo ⟨trivial,by omega⟩,zqM hil,r1,r2]
   simp only [List.getElem_set_self,List.set_set]
   by_cases d1:l[i].id=hs[j] <;> by_cases d2:l[i].f=0 <;> by_cases d3:l[i].s < ht <;> simp only [d1,d2,d3,and_self,and_true,true_and,and_false,false_and,if_true,if_false]
  ·simp only [zD,xZ,List.length_map]
   have e:cfS (hs.drop j) ht l[i]=l[i]:=by rw [List.drop_of_length_le (by omega)]; simp [cfS]
   rw [zbl (by omega),e,List.set_getElem_self]
theorem zhU (L:Nat) (hL:2000≤L) (hs:List (List Int)) (hh:∀ x ∈ hs,x.length=32) (hhl:hs.length≤1000) (ht:Int) (n:Nat) (hn:n≤100000) (kx:Nat→List V→Option β):∀ (m i:Nat) (l:List Smp),l.length=n→i≤n→n - i < m →
  yW L kx m (hs.map (row .u8)) ht n (i:Int) (yv l).flatten=kx n (yv (l.take i++(l.drop i).map (cfS hs ht))).flatten
 | 0,i,l,h1,h2,h3=>by omega
 | m+1,i,l,h1,h2,h3=>by
  by_cases h:i < n
  ·have hil:i < l.length:=by omega
   simp only [yW,y6,za4]
   rw [zaO (by omega),show ((0:Int))=((0:Nat):Int) from rfl,zfF L hs hh hhl ht n i h _ L 0 l h1 (by omega) (by omega)]
   simp only [zav,y7,zd2 (show i≤1000000000 by omega),List.drop_zero]
   rw [zhU L hL hs hh hhl ht n hn kx m (i+1) _ (by simp [h1]) (by omega) (by omega)]
   rw [zpJ hil,zpV (by omega),zqA hil]
  ·simp only [yW,y6,za4]
   rw [zbl (by omega),List.take_of_length_le (by omega),List.drop_of_length_le (by omega)]
   simp
theorem znI (L:Nat) (hL:200000≤L) (l:List Smp) (hl:l.length≤100000) (hs:List (List Int)) (hh:∀ x ∈ hs,x.length=32) (hhl:hs.length≤1000) (ht:Int) (k:List (List V)→Option β) :
  ye β L (yv l) (hs.map (row .u8)) ht k=k (yv (l.map (cfS hs ht))):=by
 simp only [ye,zcu,zd6,zaU,y7,Nat.zero_add,Nat.zero_mul,List.take_zero,List.nil_append,List.flatten_nil,List.length_nil]
 rw [xo (by simp [xm]; omega),show ((0:Int))=((0:Nat):Int) from rfl,zhU L (by omega) hs hh hhl ht l.length (by omega) _ L 0 l rfl (by omega) (by omega)]
 simp only [zbA,List.take_zero,List.nil_append,List.drop_zero]
 rw [xo (by rw [zgu,List.length_map]; omega)]
 have:=zgU (zbp (l.map (cfS hs ht)))
 rw [zaU,List.length_map] at this
 rw [this]
def zqw (id:List Int) (l:List Smp):Bool:=l.any fun x=>decide (x.id=id)
def zno (id:List Int) (hid:id.length=32) (c h:Int):Smp:=⟨id,c,h,0,hid⟩
theorem zq4 (id:List Int) (hid:id.length=32) (c h:Int) :
  xh (List.replicate 32 (V.sc (.int .u8 (0:Int)))++[(V.sc (.int .i64 (0:Int))),(V.sc (.int .i64 (0:Int))),(V.sc (.int .i64 (0:Int)))]) 0 (xh (xh (xh (List.replicate 32 (V.sc (.int .u8 (0:Int)))++[(V.sc (.int .i64 (0:Int))),(V.sc (.int .i64 (0:Int))),(V.sc (.int .i64 (0:Int)))]) 0 (List.take 32 (row .u8 id))) 32 [(V.sc (.int .i64 c))]) 33 [(V.sc (.int .i64 h))])=(zno id hid c h).row:=by
 have z1:xh (List.replicate 32 (V.sc (.int .u8 (0:Int)))++[(V.sc (.int .i64 (0:Int))),(V.sc (.int .i64 (0:Int))),(V.sc (.int .i64 (0:Int)))]) 0 (row .u8 id)=row .u8 id++[(V.sc (.int .i64 (0:Int))),(V.sc (.int .i64 (0:Int))),(V.sc (.int .i64 (0:Int)))]:=by
  simp [xh,yO,hid]
 have s1:∀ (a b d e:V),xh (row .u8 id++[a,b,d]) 32 [e]=row .u8 id++[e,b,d]:=by
  intro a b d e; simp [xh,List.take_append,List.drop_append,yO,hid,List.drop_of_length_le,List.take_of_length_le]
 have s2:∀ (a b d e:V),xh (row .u8 id++[a,b,d]) 33 [e]=row .u8 id++[a,e,d]:=by
  intro a b d e; simp [xh,List.take_append,List.drop_append,yO,hid,List.drop_of_length_le,List.take_of_length_le]
 rw [zkX hid,z1,s1,s2]
 exact zll (by simp) (zno id hid c h)
theorem zg3 {cs new:List V} {off:Nat} (hc:cs.length=35) (h:off+new.length≤35):(xh cs off new).length=35:=by rw [zps (by omega),hc]
def zoL (c:Int) (l:List Smp) (id:List Int) (hid:id.length=32) (h:Int):List Smp × Int :=
 if c < 0∨¬ (1≤h∧h≤16777216) then ([],5) else if zqw id l=true then ([],150) else if 2048≤l.length then ([],380) else (l++[zno id hid c h],0)
def BS:List Int:=[10,15,22,33,49,73,109,163,244,366,549,823,1234,1851,2776,4164,6246,9369,14053,21079,31618,47427,71140,106710]
def clF (rate:Int):List Int→Nat→Int→Int
 | [],_,x=>x
 | b::l,c,x=>clF rate l (c+1) (if b≤rate then (c:Int) else x)
theorem zrk (L:Nat) (hL:100≤L) (c:Nat) (h:c < BS.length):∀ (β:Type) (k:Int→Option β),zg β L (c:Int) k=k BS[c]:=by
 obtain ⟨m,rfl⟩:∃ m,L=m+100:=⟨L - 100,by omega⟩
 have h':c < 24:=h
 rcases c with _ | _ | _ | _ | _ | _ | _ | _ | _ | _ | _ | _ | _ | _ | _ | _ | _ | _ | _ | _ | _ | _ | _ | _ | c
 ·intro β k; kernel_rfl
 ·intro β k; kernel_rfl
 ·intro β k; kernel_rfl
 ·intro β k; kernel_rfl
 ·intro β k; kernel_rfl
 ·intro β k; kernel_rfl
 ·intro β k; kernel_rfl
 ·intro β k; kernel_rfl
 ·intro β k; kernel_rfl
 ·intro β k; kernel_rfl
 ·intro β k; kernel_rfl
 ·intro β k; kernel_rfl
 ·intro β k; kernel_rfl
 ·intro β k; kernel_rfl
 ·intro β k; kernel_rfl
 ·intro β k; kernel_rfl
 ·intro β k; kernel_rfl
 ·intro β k; kernel_rfl
 ·intro β k; kernel_rfl
 ·intro β k; kernel_rfl
 ·intro β k; kernel_rfl
 ·intro β k; kernel_rfl
 ·intro β k; kernel_rfl
 ·intro β k; kernel_rfl
 ·omega
theorem zrw (L:Nat) (hL:100≤L) (rate:Int) (β:Type) (k:Int→Option β):zt β L rate k=k (clF rate BS 0 (-1)):=by
 have loop:∀ (m c:Nat) (x:Int) (kx:Int→Option β),c≤24→24 - c < m→zaF zg L kx m rate x (c:Int)=kx (clF rate (BS.drop c) c x):=by
  intro m
  induction m with
  | zero=>intro c x kx h1 h2; omega
  | succ m ih =>
   intro c x kx h1 h2
   simp only [zaF,zcH,y7,zd2 (show c≤1000000000 by omega)]
   by_cases h:c < 24
   ·have h':c < BS.length:=h
    rw [zaO (by omega),zrk L hL c h',zaK,List.drop_eq_getElem_cons h',clF]
    by_cases g:BS[c]≤rate
    ·rw [if_pos g,if_pos g]; exact ih (c+1) c kx (by omega) (by omega)
    ·rw [if_neg g,if_neg g]; exact ih (c+1) x kx (by omega) (by omega)
   ·rw [zbl (by omega),List.drop_of_length_le (by show 24≤c; omega)]; rfl
 simp only [zt,zdA,zfC]
 rw [show ((0:Int))=((0:Nat):Int) from rfl,loop L 0 (-1) _ (by omega) (by omega)]
 rfl
theorem zri (L:Nat) (hL:100≤L) (rate:Int) (β:Type) (k:Int→Option β):xb β L rate k=k (clF rate BS 0 (-1)):=by
 obtain ⟨m,rfl⟩:∃ m,L=m+100:=⟨L - 100,by omega⟩
 have hb:∀ k:List V→Option β,xd β (m+100) k=k (row .i64 BS):=fun k=>by kernel_rfl
 have loop:∀ (f c:Nat) (x:Int) (kx:Int→Option β),c≤24→24 - c < f→zaX xd (m+100) kx f rate x (row .i64 BS) (c:Int)=kx (clF rate (BS.drop c) c x):=by
  intro f
  induction f with
  | zero=>intro c x kx h1 h2; omega
  | succ f ih =>
   intro c x kx h1 h2
   simp only [zaX,zc9,y7,zd2 (show c≤1000000000 by omega),Int.toNat_natCast]
   by_cases h:c < 24
   ·have h':c < BS.length:=h
    have hc:(row .i64 BS)[c * 1]?=some (.sc (.int .i64 BS[c])):=by simp [row,h']
    rw [zaO (by omega),xo (by omega),zcX hc,zaK,List.drop_eq_getElem_cons h',clF]
    by_cases g:BS[c]≤rate
    ·rw [if_pos g,if_pos g]; exact ih (c+1) c kx (by omega) (by omega)
    ·rw [if_neg g,if_neg g]; exact ih (c+1) x kx (by omega) (by omega)
   ·rw [zbl (by omega),List.drop_of_length_le (by show 24≤c; omega)]; rfl
 simp only [xb,zeD,zgh,hb]
 rw [show ((0:Int))=((0:Nat):Int) from rfl,loop (m+100) 0 (-1) _ (by omega) (by omega)]
 rfl
theorem zrF {β:Type} (L:Nat) (n a b:Int) (k:Bool→Option β):zh β L n a b k=k (decide (a≤n∧n≤b)):=by
 simp only [zh,zhB,zaK]
 by_cases h1:n ≥ a <;> by_cases h2:n≤b <;> simp [h1,h2,show a≤n↔n ≥ a from Iff.rfl]
theorem zl8 {β:Type} (L:Nat) (id:List Int) (hid:id.length=32) (l:List Smp) (hl:l.length≤1000000) (k:Int→Option β):∀ (m i:Nat),i≤l.length→l.length - i < m →
  zbb L (fun p4=>zci L p4 k) (zcO L k) m (yv l) (i:Int) (row .u8 id)=k (zg2 (fun x=>decide (x.id=id)) (l.drop i) i)
 | 0,i,h1,h2=>by omega
 | m+1,i,h1,h2=>by
  simp only [zbb,zdE,y7,zaU,zd2 (show i≤1000000000 by omega)]
  by_cases hi:i < l.length
  ·rw [zaO (by omega),zhl (zcG hi),xo (by rw [yO,hid]; omega),l[i].take32,zkX hid,znO .u8 l[i].hid hid,zaK,List.drop_eq_getElem_cons hi,zg2,zl8 L id hid l hl k m (i+1) (by omega) (by omega)]
   by_cases d:l[i].id=id
   ·rw [if_pos d,if_pos (by simp [d])]; rfl
   ·rw [if_neg d,if_neg (by simp [d])]
  ·rw [zbl (by omega),List.drop_of_length_le (by omega)]; rfl
theorem zqL {β:Type} (L:Nat) (hL:200000≤L) (id:List Int) (hid:id.length=32) (l:List Smp) (hl:l.length≤100000) (k:Int→Option β):yx β L (yv l) (row .u8 id) k=k (zg2 (fun x=>decide (x.id=id)) l 0):=by
 simp only [yx,zeP,zf0]
 rw [show ((0:Int))=((0:Nat):Int) from rfl,zl8 L id hid l (by omega) k L 0 (by omega) (by omega)]
 rfl
theorem znv {β:Type} (L:Nat) (hL:200000≤L) (l:List Smp) (hl:l.length≤100000) (id:List Int) (hid:id.length=32) (rate h:Int) (k:List (List V)→Int→Option β) :
  ze β L (yv l) (row .u8 id) rate h k=k (yv (zoL (clF rate BS 0 (-1)) l id hid h).1) (zoL (clF rate BS 0 (-1)) l id hid h).2:=by
 simp only [ze,zd4,zrw L (by omega),zrF,zkX hid,zqL L hL id hid l hl,zkf,y7,zaU]
 generalize clF rate BS 0 (-1)=c
 rw [zaK]
 unfold zoL
 by_cases h1:c < 0
 ·rw [if_pos h1,if_pos (.inl h1)]; rfl
 rw [if_neg h1]
 by_cases h2:1≤h∧h≤16777216
 rotate_left
 ·rw [if_neg h2,if_pos (.inr h2)]; rfl
 rw [if_pos h2,if_neg (show ¬ (c < 0∨¬ (1≤h∧h≤16777216)) from fun q=>q.elim h1 (fun z=>z h2)),xo (by rw [yO,hid]; omega),zra]
 cases h4:zqw id l with
 | true =>
  have h4':(l.any fun x=>decide (x.id=id))=true:=h4
  rw [h4',zqm,if_pos rfl]; rfl
 | false =>
  have h4':(l.any fun x=>decide (x.id=id))=false:=h4
  rw [h4',zo4,if_neg (show ¬ (false=true) by simp),zaK]
  by_cases h5:(l.length:Int) ≥ 2048
  ·rw [if_pos h5,if_pos (show 2048≤l.length by omega)]; rfl
  rw [if_neg h5,if_neg (show ¬ 2048≤l.length by omega),xo (by simp [xm]; omega),xo (by rw [yO,hid]; omega),xo (by rw [yO,hid]; omega)]
  have nr:=zq4 id hid c h
  rw [zkX hid] at nr
  have l1:(xh (List.replicate 32 (V.sc (.int .u8 (0:Int)))++[(V.sc (.int .i64 (0:Int))),(V.sc (.int .i64 (0:Int))),(V.sc (.int .i64 (0:Int)))]) 0 (row .u8 id)).length=35:=zg3 (by simp) (by rw [yO,hid]; omega)
  have l2:=zg3 (off:=32) (new:=[(V.sc (.int .i64 c))]) l1 (by simp)
  have l3:=zg3 (off:=33) (new:=[(V.sc (.int .i64 h))]) l2 (by simp)
  have ec:yh 35 1 (zno id hid c h).row=[(zno id hid c h).row]:=by simp [yh,Smp.take]
  rw [xo (by rw [l1]; simp),xo (by rw [l2]; simp),xo (by rw [l3]; simp),nr,ec,xo (by simp [xm,zaU]; omega)]
  simp [yv]
theorem zop (L:Nat) (hL:200000≤L) (l:List Smp) (hl:l.length≤5000) (id:List Int) (hid:id.length=32) (rate h:Int):∃ (l':List Smp) (e:Int),l'.length≤l.length+1∧∀ (β:Type) (k:List (List V)→Int→Option β),ze β L (yv l) (row .u8 id) rate h k=k (yv l') e:=by
 refine ⟨_,_,?_,fun β k=>znv L hL l (by omega) id hid rate h k⟩
 unfold zoL
 split
 ·simp
 ·split
  ·simp
  ·split
   ·simp
   ·simp
theorem zoN (L:Nat) (hL:200000≤L) (d:Dk):∃ (l:List Smp) (d':Dk),l.length≤100∧d'.l=d.l∧∀ (β:Type) (k:List (List V)→List (List V)→Int→Option β),zb β L d.es d.a k=k (yv l) d'.es d'.a:=by
 have loop:∀ (c m:Nat) (l:List Smp) (d:Dk),c < m→l.length+c≤100→∃ (l':List Smp) (d':Dk),l'.length≤100∧d'.l=d.l∧∀ (β:Type) (kx:List (List V)→List (List V)→Int→Option β),yD za xf ye zc ze L kx m (yv l) (c:Int) d.es d.a=kx (yv l') d'.es d'.a:=by
  intro c
  induction c with
  | zero =>
   intro m l d hm hl
   obtain ⟨m,rfl⟩:∃ q,m=q+1:=⟨m - 1,by omega⟩
   refine ⟨l,d,by omega,rfl,fun β kx=>?_⟩
   simp only [yD,zV]
   rw [zbl (by omega)]
  | succ c ih =>
   intro m l d hm hl
   obtain ⟨m,rfl⟩:∃ q,m=q+1:=⟨m - 1,by omega⟩
   have w:IntKind.wrap .i64 (((c+1:Nat):Int) - 1)=(c:Int):=by rw [zF (by omega) (by omega)]; omega
   obtain ⟨r,d1,e1,h1,h2,q1⟩:=zdQ L d 4 (by omega) (by omega)
   by_cases hr:r=0
   ·obtain ⟨hs,d2,e2,g1,g2,q2⟩:=zo1 L (by omega) d1 4 (by omega) (by omega)
    obtain ⟨s,d3,e3,s1,s2,q3⟩:=zdQ L d2 20 (by omega) (by omega)
    have q4:=fun (β:Type) (k:List (List V)→Option β)=>znI (β:=β) L hL l (by omega) hs g1 (by omega) (IntKind.wrap .i64 (1+s)) k
    obtain ⟨l',d',g3,g4,q5⟩:=ih m (l.map (cfS hs (IntKind.wrap .i64 (1+s)))) d3 (by omega) (by simp; omega)
    refine ⟨l',d',g3,by rw [g4,e3,e2,e1],fun β kx=>?_⟩
    simp only [yD,zV,q1,y7,w]
    rw [zaO (by omega),zjt hr,q2]
    simp only [q3]
    exact (q4 β _).trans (q5 β kx)
   ·obtain ⟨id,d2,e2,hid,q2⟩:=znP L d1
    obtain ⟨s,d3,e3,s1,s2,q3⟩:=zdQ L d2 60 (by omega) (by omega)
    obtain ⟨t,d4,e4,t1,t2,q4⟩:=zdQ L d3 15 (by omega) (by omega)
    obtain ⟨l1,e,f1,q5⟩:=zop L hL l (by omega) id hid (IntKind.wrap .i64 (10+s)) (IntKind.wrap .i64 (1+t))
    obtain ⟨la,da,ga,ha,qa⟩:=ih m l1 d4 (by omega) (by omega)
    obtain ⟨lb,db,gb,hb,qb⟩:=ih m l d4 (by omega) (by omega)
    by_cases he:e=0
    ·refine ⟨la,da,ga,by rw [ha,e4,e3,e2,e1],fun β kx=>?_⟩
     simp only [yD,zV,q1,y7,w]
     rw [zaO (by omega),zgV hr,q2]
     simp only [q3,q4,q5]
     rw [zjt he]
     exact qa β kx
    ·refine ⟨lb,db,gb,by rw [hb,e4,e3,e2,e1],fun β kx=>?_⟩
     simp only [yD,zV,q1,y7,w]
     rw [zaO (by omega),zgV hr,q2]
     simp only [q3,q4,q5]
     rw [zgV he]
     exact qb β kx
 obtain ⟨r,d1,e1,h1,h2,q1⟩:=zdQ L d 20 (by omega) (by omega)
 obtain ⟨c,rfl⟩:∃ c:Nat,r=c:=⟨r.toNat,by omega⟩
 obtain ⟨l',d',g1,g2,g3⟩:=loop c L [] d1 (by omega) (by simp; omega)
 refine ⟨l',d',g1,by rw [g2,e1],fun β k=>?_⟩
 simp only [zb,zcv,zef,q1]
 exact g3 β _
theorem zrJ (L:Nat) {β:Type} (k:Bool→Option β):xc β (L+100) k=k true:=by kernel_rfl
def zmD (cl bl h:Int) (x:Smp) (p:Int × Int):Int × Int :=
 if x.c=cl then
  if x.f ≥ 1 then (if IntKind.wrap .i64 (x.f - x.s)≤bl then (IntKind.wrap .i64 (p.1+1),IntKind.wrap .i64 (p.2+1)) else (p.1,IntKind.wrap .i64 (p.2+1)))
  else if IntKind.wrap .i64 (x.s+bl)≤h then (p.1,IntKind.wrap .i64 (p.2+1)) else p
 else p
def zeq (cl bl h:Int):List Smp→Int × Int→Int × Int
 | [],p=>p
 | x::l,p=>zeq cl bl h l (zmD cl bl h x p)
theorem zgH (L:Nat) (cl bl h:Int) (l:List Smp) (hl:l.length≤1000000) (kx:Int→Int→Option β):∀ (n i:Nat) (p:Int × Int),i≤l.length→l.length - i < n→zaw L kx n cl bl h p.1 p.2 (yv l) (l.length:Int) (i:Int)=kx (zeq cl bl h (l.drop i) p).1 (zeq cl bl h (l.drop i) p).2
 | 0,i,p,hi,hn=>by omega
 | n+1,i,p,hi,hn=>by
  simp only [zaw,zdF,y7]
  by_cases hlt:i < l.length
  ·have w1:IntKind.wrap .i64 ((i:Int)+1)=((i+1:Nat):Int):=by rw [zF (by omega) (by omega)]; omega
   have ih:∀ u v:Int,zaw L kx n cl bl h u v (yv l) (l.length:Int) ((i+1:Nat):Int)=kx (zeq cl bl h (l.drop (i+1)) (u,v)).1 (zeq cl bl h (l.drop (i+1)) (u,v)).2:=fun u v=>zgH L cl bl h l hl kx n (i+1) (u,v) (by omega) (by omega)
   rw [zaO (by omega),zhl (zcG hlt),List.drop_eq_getElem_cons hlt,zeq,l[i].take,xo (by simp [l[i].len]),zll (by simp),zcX l[i].g32,zcX l[i].g34,zcX l[i].g33,w1]
   simp only [zn3,zaK,zcX l[i].g34,zcX l[i].g33]
   unfold zmD
   by_cases h1:l[i].c=cl <;> by_cases h2:l[i].f ≥ 1 <;> by_cases h3:IntKind.wrap .i64 (l[i].f - l[i].s)≤bl <;> by_cases h4:IntKind.wrap .i64 (l[i].s+bl)≤h <;> simp only [h1,h2,h3,h4,if_true,if_false] <;> exact ih _ _
  ·rw [zbl (by omega),List.drop_of_length_le (by omega)]
   rfl
theorem zn9 (L:Nat) (cl bl h:Int) (l:List Smp) (hl:l.length≤1000000) (hL:l.length < L) (k:Int→Int→Option β):xg β L (yv l) cl bl h k=k (zeq cl bl h l (0,0)).1 (zeq cl bl h l (0,0)).2:=by
 simp only [xg,zeI,zf6,zaU]
 exact zgH L cl bl h l hl _ L 0 (0,0) (by omega) (by omega)
end
section
set_option linter.unusedVariables false
set_option linter.unusedSimpArgs false
set_option maxRecDepth 100000
def wP (cl bl:Int) (x:Smp):Bool:=decide (x.c=cl∧x.f ≥ 1∧IntKind.wrap .i64 (x.f - x.s)≤bl)
def tP (cl bl h:Int) (x:Smp):Bool:=decide (x.c=cl∧(x.f ≥ 1∨IntKind.wrap .i64 (x.s+bl)≤h))
theorem zjM (cl bl h:Int):∀ (l:List Smp) (p:Int × Int) (hl:l.length≤1000) (h1:0≤p.1∧p.1≤100000) (h2:0≤p.2∧p.2≤100000),p.1+l.length≤100000→p.2+l.length≤100000→zeq cl bl h l p=(p.1+(l.countP (wP cl bl):Nat),p.2+(l.countP (tP cl bl h):Nat))
 | [],p,_,_,_,_,_=>by simp [zeq]
 | x::l,p,hl,h1,h2,g1,g2=>by
  simp only [List.length_cons] at hl g1 g2
  have w1:IntKind.wrap .i64 (p.1+1)=p.1+1:=zF (by omega) (by omega)
  have w2:IntKind.wrap .i64 (p.2+1)=p.2+1:=zF (by omega) (by omega)
  have e:zmD cl bl h x p=(p.1+(if wP cl bl x=true then 1 else 0:Nat),p.2+(if tP cl bl h x=true then 1 else 0:Nat)):=by
   unfold zmD wP tP
   rw [w1,w2]
   by_cases a1:x.c=cl <;> by_cases a2:x.f ≥ 1 <;> by_cases a3:IntKind.wrap .i64 (x.f - x.s)≤bl <;> by_cases a4:IntKind.wrap .i64 (x.s+bl)≤h <;> simp [a1,a2,a3,a4] <;> omega
  have b1:(if wP cl bl x=true then 1 else 0:Nat)≤1:=by split <;> omega
  have b2:(if tP cl bl h x=true then 1 else 0:Nat)≤1:=by split <;> omega
  rw [zeq,e,zjM cl bl h l _ (by omega) (by dsimp only; omega) (by dsimp only; omega) (by dsimp only; omega) (by dsimp only; omega),List.countP_cons,List.countP_cons]
  ext <;> dsimp only <;> omega
def est (W T:Nat→Nat) (num den least:Int):Nat→Int→Int→Int→Int
 | 0,a,_,_=>a
 | c+1,a,y,z =>
  if z+T c < least then est W T num den least c a (y+W c) (z+T c)
  else if (y+W c) * den < num * (z+T c) then a
  else est W T num den least c (BS.getD c 0) 0 0
theorem zpv {j:Nat} (h:j < 24):0 < BS.getD j 0:=by
 have:∀ j < 24,0 < BS.getD j 0:=by decide
 exact this j h
theorem zn5 {i j:Nat} (h:j < 24) (hi:i≤j):BS.getD i 0≤BS.getD j 0:=by
 have:∀ j < 24,∀ i≤j,BS.getD i 0≤BS.getD j 0:=by decide
 exact this j h i hi
theorem zkB (W T:Nat→Nat) (num den least:Int):∀ (c:Nat) (a y z:Int),est W T num den least c a y z=a∨∃ j < c,est W T num den least c a y z=BS.getD j 0
 | 0,a,y,z=>.inl rfl
 | c+1,a,y,z=>by
  simp only [est]
  split
  ·rcases zkB W T num den least c a (y+W c) (z+T c) with h | ⟨j,h1,h2⟩
   ·exact .inl h
   ·exact .inr ⟨j,by omega,h2⟩
  ·split
   ·exact .inl rfl
   ·rcases zkB W T num den least c (BS.getD c 0) 0 0 with h | ⟨j,h1,h2⟩
    ·exact .inr ⟨c,by omega,h⟩
    ·exact .inr ⟨j,by omega,h2⟩
theorem zj6 (W T:Nat→Nat) {n m:Int} (hmn:m≤n) (den least:Int):∀ (c:Nat) (a y z:Int),c≤24→0≤z→(a=0∨∃ k,c≤k∧k < 24∧a=BS.getD k 0)→est W T n den least c a y z≠0 →
  est W T m den least c a y z≠0∧est W T m den least c a y z≤est W T n den least c a y z
 | 0,a,y,z,_,_,_,h=>⟨h,Int.le_refl _⟩
 | c+1,a,y,z,hc,hz,ha,h=>by
  simp only [est] at h ⊢
  by_cases h1:z+T c < least
  ·rw [if_pos h1] at h ⊢
   rw [if_pos h1]
   refine zj6 W T hmn den least c a _ _ (by omega) (by omega) ?_ h
   rcases ha with ha | ⟨k,k1,k2,k3⟩
   ·exact .inl ha
   ·exact .inr ⟨k,by omega,k2,k3⟩
  ·rw [if_neg h1] at h ⊢
   rw [if_neg h1]
   have hz':0≤z+(T c:Int):=by omega
   have hmul:=Int.mul_le_mul_of_nonneg_right hmn hz'
   by_cases h2:(y+W c) * den < n * (z+T c)
   ·rw [if_pos h2] at h ⊢
    rcases ha with ha | ⟨k,k1,k2,k3⟩
    ·exact absurd ha h
    ·by_cases h3:(y+W c) * den < m * (z+T c)
     ·rw [if_pos h3]; exact ⟨h,Int.le_refl _⟩
     ·rw [if_neg h3]
      rcases zkB W T m den least c (BS.getD c 0) 0 0 with e | ⟨j,j1,e⟩
      ·rw [e,k3]
       exact ⟨by have:=zpv (j:=c) (by omega); omega,zn5 k2 (by omega)⟩
      ·rw [e,k3]
       exact ⟨by have:=zpv (j:=j) (by omega); omega,zn5 k2 (by omega)⟩
   ·rw [if_neg h2] at h ⊢
    have h3:¬ (y+W c) * den < m * (z+T c):=by omega
    rw [if_neg h3]
    exact zj6 W T hmn den least c _ 0 0 (by omega) (by omega) (.inr ⟨c,by omega,by omega,rfl⟩) h
theorem zpt (L:Nat) (hL:100≤L) (c:Nat) (h:c < 24):∀ (β:Type) (k:Int→Option β),ya β L (c:Int) k=k (BS.getD c 0):=by
 obtain ⟨m,rfl⟩:∃ m,L=m+100:=⟨L - 100,by omega⟩
 rcases c with _ | _ | _ | _ | _ | _ | _ | _ | _ | _ | _ | _ | _ | _ | _ | _ | _ | _ | _ | _ | _ | _ | _ | _ | c
 ·intro β k; kernel_rfl
 ·intro β k; kernel_rfl
 ·intro β k; kernel_rfl
 ·intro β k; kernel_rfl
 ·intro β k; kernel_rfl
 ·intro β k; kernel_rfl
 ·intro β k; kernel_rfl
 ·intro β k; kernel_rfl
 ·intro β k; kernel_rfl
 ·intro β k; kernel_rfl
 ·intro β k; kernel_rfl
 ·intro β k; kernel_rfl
 ·intro β k; kernel_rfl
 ·intro β k; kernel_rfl
 ·intro β k; kernel_rfl
 ·intro β k; kernel_rfl
 ·intro β k; kernel_rfl
 ·intro β k; kernel_rfl
 ·intro β k; kernel_rfl
 ·intro β k; kernel_rfl
 ·intro β k; kernel_rfl
 ·intro β k; kernel_rfl
 ·intro β k; kernel_rfl
 ·intro β k; kernel_rfl
 ·omega
theorem zry {j:Nat} (h:j < 24):clF (BS.getD j 0) BS 0 (-1)=(j:Int):=by
 have:∀ j < 24,clF (BS.getD j 0) BS 0 (-1)=((j:Nat):Int):=by decide
 exact this j h
def Wc (bl:Int) (l:List Smp) (c:Nat):Nat:=l.countP (wP c bl)
def Tc (bl h:Int) (l:List Smp) (c:Nat):Nat:=l.countP (tP c bl h)
variable {β:Type}
theorem ziJ (L:Nat) (hL:200000≤L) (l:List Smp) (hl:l.length≤100) (bl num h:Int) (hn:0≤num) (hn2:num≤10) (kx:Int→Option β):∀ (n c:Nat) (a y z:Int),c≤24→c < n→0≤y→0≤z→y+c * 100≤2400→z+c * 100≤2400 →
  z7 xg ya L kx n (yv l) bl num 10 2 h a y z ((c:Int) - 1)=kx (est (Wc bl l) (Tc bl h l) num 10 2 c a y z)
 | 0,c,a,y,z,hc,hm,_,_,_,_=>by omega
 | n+1,c,a,y,z,hc,hm,hy,hz,gy,gz=>by
  simp only [z7,zbP,y7]
  rcases c with _ | c
  ·rw [zbl (by omega)]; rfl
  ·have e0:((c+1:Nat):Int) - 1=(c:Int):=by omega
   have e1:IntKind.wrap .i64 ((c:Int) - 1)=(c:Int) - 1:=zF (by omega) (by omega)
   have c1:l.countP (wP c bl)≤l.length:=List.countP_le_length
   have c2:l.countP (tP c bl h)≤l.length:=List.countP_le_length
   have w1:IntKind.wrap .i64 (y+(0+((l.countP (wP c bl):Nat):Int)))=y+(Wc bl l c:Int):=by rw [zF (by omega) (by omega)]; simp [Wc]
   have w2:IntKind.wrap .i64 (z+(0+((l.countP (tP c bl h):Nat):Int)))=z+(Tc bl h l c:Int):=by rw [zF (by omega) (by omega)]; simp [Tc]
   have d1:Wc bl l c≤100:=by unfold Wc; omega
   have d2:Tc bl h l c≤100:=by unfold Tc; omega
   have m1:=Int.mul_le_mul_of_nonneg_right hn2 (show 0≤z+(Tc bl h l c:Int) by omega)
   have m2:=Int.mul_nonneg hn (show 0≤z+(Tc bl h l c:Int) by omega)
   have w3:IntKind.wrap .i64 (num * (z+(Tc bl h l c:Int)))=num * (z+(Tc bl h l c:Int)):=zF (by omega) (by omega)
   have w4:IntKind.wrap .i64 ((y+(Wc bl l c:Int)) * 10)=(y+(Wc bl l c:Int)) * 10:=zF (by omega) (by omega)
   simp only [e0,e1]
   rw [zaO (by omega),zn9 L _ _ _ l (by omega) (by omega),zjM _ _ _ l (0,0) (by omega) (by simp) (by simp) (by simp; omega) (by simp; omega)]
   simp only [w1,w2,w3,w4,zaK,zpt L (by omega) c (by omega),est]
   split
   ·exact ziJ L hL l hl bl num h hn hn2 kx n c a _ _ (by omega) (by omega) (by omega) (by omega) (by omega) (by omega)
   ·split
    ·rfl
    ·exact ziJ L hL l hl bl num h hn hn2 kx n c _ 0 0 (by omega) (by omega) (by omega) (by omega) (by omega) (by omega)
def zqg (r:Int):Int:=if r=0 then 330 else 0
theorem zjR (L:Nat) (hL:200000≤L) (l:List Smp) (hl:l.length≤100) (bl num h:Int) (hb:1≤bl) (hb2:bl≤24) (hn:0≤num) (hn2:num≤10) (k:Int→Int→Option β) :
  xa β L (yv l) bl num 10 2 h k=k (est (Wc bl l) (Tc bl h l) num 10 2 24 0 0 0) (zqg (est (Wc bl l) (Tc bl h l) num 10 2 24 0 0 0)):=by
 simp only [xa,zcr,zew,zaK]
 rw [if_neg (by omega),if_neg (by omega),if_neg (by omega),if_neg (by omega),if_neg (by omega),if_neg (by omega),if_neg (by omega),if_neg (by omega)]
 have:=ziJ L hL l hl bl num h hn hn2 (fun p14=>zak xg ya L p14 k) L 24 0 0 0 (by omega) (by omega) (by omega) (by omega) (by omega) (by omega)
 rw [show ((24:Nat):Int) - 1=23 from rfl] at this
 rw [this]
 simp only [zak,zlD,zqg]
 split
 ·next e=>rw [e]
 ·rfl
def sameC (l m:List Smp):Prop:=l.length=m.length∧∀ p:Smp→Bool,l.countP p=m.countP p
theorem sameC.est {l m:List Smp} (h:sameC l m) (bl ht num:Int) (c:Nat) (a y z:Int):Go.Proofs.Ythplooifbkopgaa.est (Wc bl l) (Tc bl ht l) num 10 2 c a y z=Go.Proofs.Ythplooifbkopgaa.est (Wc bl m) (Tc bl ht m) num 10 2 c a y z:=by
 have e1:Wc bl l=Wc bl m:=funext fun c=>h.2 _
 have e2:Tc bl ht l=Tc bl ht m:=funext fun c=>h.2 _
 rw [e1,e2]
theorem zjH (p:Smp→Bool) (l:List Smp) {i:Nat} (h:i < l.length) (x:Smp):(l.set i x).countP p+(if p l[i]=true then 1 else 0)=l.countP p+(if p x=true then 1 else 0):=by
 have e1:l=l.take i++l[i]::l.drop (i+1):=by rw [← List.drop_eq_getElem_cons h,List.take_append_drop]
 have e2:l.set i x=l.take i++x::l.drop (i+1):=List.set_eq_take_append_cons_drop.trans (by rw [if_pos h])
 have e3:l.countP p=(l.take i).countP p+((l.drop (i+1)).countP p+(if p l[i]=true then 1 else 0)):=by
  conv=>lhs; rw [e1]
  rw [List.countP_append,List.countP_cons]
 rw [e2,List.countP_append,List.countP_cons,e3]
 omega
theorem zo7 {l:List Smp} {i k:Nat} (hi:i < l.length) (hk:k < l.length) (hne:i≠k):sameC ((l.set i l[k]).set k l[i]) l:=by
 refine ⟨by simp,fun p=>?_⟩
 have h1:=zjH p l hi l[k]
 have hk':k < (l.set i l[k]).length:=by simpa using hk
 have h2:=zjH p (l.set i l[k]) hk' l[i]
 rw [List.getElem_set_ne (by omega)] at h2
 omega
theorem sameC.trans {a b c:List Smp} (h:sameC a b) (g:sameC b c):sameC a c:=⟨h.1.trans g.1,fun p=>(h.2 p).trans (g.2 p)⟩
theorem zqd (l:List Smp) (t:Nat):sameC (l.drop t++l.take t) l:=by
 refine ⟨?_,fun p=>?_⟩
 ·conv=>rhs; rw [← List.take_append_drop t l]
  rw [List.length_append,List.length_append]; omega
 ·conv=>rhs; rw [← List.take_append_drop t l]
  rw [List.countP_append,List.countP_append]; omega
theorem zqY {l:List Smp} {t i:Nat} (ht:t < l.length) (hi:i < l.length) (h:(i+t) % l.length < l.length):(l.drop t++l.take t)[i]?=some (l[(i+t) % l.length]'h):=by
 by_cases c:i+t < l.length
 ·have e:(i+t) % l.length=i+t:=Nat.mod_eq_of_lt c
  rw [List.getElem?_append_left (by rw [List.length_drop]; omega),List.getElem?_drop,List.getElem?_eq_getElem (by omega)]
  simp only [e]
  congr 2; omega
 ·have e:(i+t) % l.length=i+t - l.length:=by rw [Nat.mod_eq_sub_mod (by omega),Nat.mod_eq_of_lt (by omega)]
  rw [List.getElem?_append_right (by rw [List.length_drop]; omega),List.getElem?_take_of_lt (by rw [List.length_drop]; omega),List.length_drop,List.getElem?_eq_getElem (by omega)]
  simp only [e]
  congr 2; omega
end
section
set_option linter.unusedVariables false
set_option linter.unusedSimpArgs false
set_option maxRecDepth 100000
theorem zrM (x:Smp):xh (List.replicate 32 (V.sc (.int .u8 (0:Int)))++[(V.sc (.int .i64 (0:Int))),(V.sc (.int .i64 (0:Int))),(V.sc (.int .i64 (0:Int)))]) 0 (List.take 35 x.row)=x.row:=by
 rw [x.take]; exact zll (by simp) x
theorem zqW (x:Smp):yh 35 1 x.row=[x.row]:=by simp [yh,x.take]
theorem zmU (L:Nat) (l:List Smp) (hl:l.length≤100) (t:Nat) (p1 p2 p3 p4 p5:Int) (hm:0 < l.length→t < l.length∧∀ (β:Type) (k:Int→Option β),yc β L p4 (l.length:Int) k=k (t:Int)) (b0:List (List V)) (b1:Int)
  (kx:zcm Bool):∀ (n i:Nat),i≤l.length→l.length - i < n →
  xS xc yd zb yc xa xb ya L kx n p1 p2 p3 p4 p5 (yv l) (yv ((l.drop t++l.take t).take i)) (l.length:Int) (i:Int) b0 b1=kx p1 p2 p3 p5 (yv l) (yv ((l.drop t++l.take t).take l.length)) b0 b1
 | 0,i,hi,hn=>by omega
 | n+1,i,hi,hn=>by
  simp only [xS,za9,y7,zaU]
  by_cases h:i < l.length
  ·obtain ⟨ht,hm'⟩:=hm (by omega)
   have hlt:(i+t) % l.length < l.length:=Nat.mod_lt _ (by omega)
   have w1:IntKind.wrap .i64 ((i:Int)+(t:Int))=((i+t:Nat):Int):=by rw [zF (by omega) (by omega)]; omega
   have w2:Int.tmod ((i+t:Nat):Int) (l.length:Int)=(((i+t) % l.length:Nat):Int):=by rw [Int.tmod_eq_emod_of_nonneg (by omega)]; omega
   have hq:=zqY (l:=l) ht h hlt
   have hql:i < (l.drop t++l.take t).length:=by rw [List.length_append,List.length_drop,List.length_take]; omega
   have hr:(l.drop t++l.take t).take (i+1)=(l.drop t++l.take t).take i++[l[(i+t) % l.length]]:=by
    rw [List.take_add_one,hq]; rfl
   have htl:((l.drop t++l.take t).take i).length≤100:=by rw [List.length_take]; omega
   rw [zaO (by omega),hm',w1,xo (by omega),w2,zhl (zcG hlt),xo (by simp [Smp.len]),zrM,zqW,xo (by simp [xm] at *; omega),zd2 (by omega)]
   have e:yv ((l.drop t++l.take t).take i)++[l[(i+t) % l.length].row]=yv ((l.drop t++l.take t).take (i+1)):=by rw [hr,← zqc]; rfl
   rw [e]
   exact zmU L l hl t p1 p2 p3 p4 p5 hm b0 b1 kx n (i+1) (by omega) (by omega)
  ·have e:i=l.length:=by omega
   rw [zbl (by omega),e]
theorem zmY (L:Nat) (p1 p2 p3 p5:Int) (p13:List (List V)) (N q:Nat) (hN:N≤100) (b0:List (List V)) (b1:Int) (m0:List Smp) (kx:zck Bool) (r:Option Bool)
  (hk:∀ m:List Smp,sameC m m0→kx p1 p2 p3 p5 p13 N q b0 b1 (yv m).flatten=r):∀ (n:Nat) (i k:Int) (m:List Smp),0≤i→k < N→i≤200→-1≤k→(k - i < n)→m.length=N→0 < n→sameC m m0 →
  xQ xc yd zb yc xa xb ya L kx n p1 p2 p3 p5 p13 N i k q b0 b1 (yv m).flatten=r
 | 0,i,k,m,_,_,_,_,_,_,h0,_=>by omega
 | n+1,i,k,m,hi,hkN,hi2,hk1,hn,hm,_,hs=>by
  simp only [xQ,za1,y7]
  by_cases h:i < k
  ·obtain ⟨a,rfl⟩:∃ a:Nat,i=a:=⟨i.toNat,by omega⟩
   obtain ⟨b,rfl⟩:∃ b:Nat,k=b:=⟨k.toNat,by omega⟩
   have ha:a < m.length:=by omega
   have hb:b < m.length:=by omega
   have fl:=zgu m
   have l1:(a+1) * 35≤m.length * 35:=Nat.mul_le_mul_right _ ha
   have l2:(b+1) * 35≤m.length * 35:=Nat.mul_le_mul_right _ hb
   have fl2:∀ x,(yv (m.set a x)).flatten.length=m.length * 35:=fun x=>by rw [zgu,List.length_set]
   simp only [Int.toNat_natCast,Nat.zero_add,znl ha,znl hb]
   rw [zaO h,xo (by omega),xo (by omega),xo (by omega),xo (by omega),xo (by omega),xo ⟨Smp.len _,by omega⟩,znq ha,xo (by omega),xo ⟨Smp.len _,by rw [fl2]; omega⟩,znq (l:=m.set a m[b]) (by simpa using hb),zF (by omega) (by omega),zF (by omega) (by omega)]
   exact zmY L p1 p2 p3 p5 p13 N q hN b0 b1 m0 kx r hk n _ _ _ (by omega) (by omega) (by omega) (by omega) (by omega) (by simp [hm]) (by omega) ((zo7 ha hb (by omega)).trans hs)
  ·rw [zbl h]
   exact hk m hs
theorem zkZ (a0:List (List V)) (a1 a2 a3 a4 a5:Int) (hl0:a0.length≤maxLen) (wf0:∀ e ∈ a0,HasRow [.int .i64] e) (wf1:(Lit.int .i64 a1).wf=true) (wf2:(Lit.int .i64 a2).wf=true) (wf3:(Lit.int .i64 a3).wf=true) (wf4:(Lit.int .i64 a4).wf=true) (wf5:(Lit.int .i64 a5).wf=true) :
  ∃ L,∀ k:Bool→Option Bool,xP Bool L a0 a1 a2 a3 a4 a5 k=k true:=by
 obtain ⟨l,rfl,_⟩:=zn2 wf0
 rw [zjO] at hl0
 obtain ⟨L,hL⟩:∃ L:Nat,200100≤L:=⟨200100,Nat.le_refl _⟩
 refine ⟨L,fun k=>?_⟩
 have fs:∀ k:Bool→Option Bool,xc Bool L k=k true:=by
  obtain ⟨q,rfl⟩:∃ q,L=q+100:=⟨L - 100,by omega⟩
  exact fun k=>zrJ q k
 have hl1:l.length≤9223372036854775807:=by unfold maxLen at hl0; omega
 obtain ⟨sl,d1,hsl,_,qs⟩:=zoN L (by omega) ⟨l,0,by omega,by omega,hl1⟩
 have qs:∀ (β:Type) (k:List (List V)→List (List V)→Int→Option β),zb β L (ziI .i64 l) 0 k=k (yv sl) d1.es d1.a:=qs
 obtain ⟨t,ht⟩:∃ t:Nat,0 < sl.length→t < sl.length∧∀ (β:Type) (k:Int→Option β),yc β L a4 (sl.length:Int) k=k (t:Int):=by
  by_cases h:0 < sl.length
  ·obtain ⟨r,r1,r2,qr⟩:=zhi L a4 (sl.length:Int) (by omega) (by omega)
   refine ⟨r.toNat,fun _=>⟨by omega,fun β k=>?_⟩⟩
   rw [qr]; congr 1; omega
  ·exact ⟨0,fun q=>absurd q h⟩
 obtain ⟨bl,b1,b2,qb⟩:=zhi L a1 24 (by omega) (by omega)
 obtain ⟨nu,n1,n2,qn⟩:=zhi L a2 11 (by omega) (by omega)
 obtain ⟨ht',h1,h2,qh⟩:=zhi L a5 40 (by omega) (by omega)
 obtain ⟨ls,s1,s2,ql⟩:=zhi L a3 (nu+1) (by omega) (by omega)
 have w1:IntKind.wrap .i64 (1+bl)=1+bl:=zF (by omega) (by omega)
 have w2:IntKind.wrap .i64 (nu+1)=nu+1:=zF (by omega) (by omega)
 have hrot:=zqd sl t
 have hrl:(sl.drop t++sl.take t).take sl.length=sl.drop t++sl.take t:=List.take_of_length_le (by rw [hrot.1]; exact Nat.le_refl _)
 simp only [xP,zbE,zda,fs,yd,zhO,y7]
 show zb Bool L (ziI .i64 l) 0 _=_
 simp only [qs,zaU]
 have rl:=zmU L sl hsl t a1 a2 a3 a4 a5 ht d1.es d1.a (fun p1 p2 p3 p5 p13 p14 zsm zsn=>yJ xc yd zb yc xa xb ya L p1 p2 p3 p5 p13 p14 zsm zsn k) L 0 (by omega) (by omega)
 refine rl.trans ?_
 rw [hrl]
 have hlen:=hrot.1
 generalize sl.drop t++sl.take t=y at hrot hlen
 simp only [yJ,zaS,y7,zaU]
 rw [zF (by omega) (by omega)]
 refine zmY L a1 a2 a3 a5 (yv sl) y.length y.length (by omega) d1.es d1.a y _ (k true) ?_ L 0 _ y (by omega) (by omega) (by omega) (by omega) (by omega) rfl (by omega) ⟨rfl,fun _=>rfl⟩
 intro m hm
 have hms:=hm.trans hrot
 have ec:yh 35 y.length (yv m).flatten=yv m:=by rw [← hm.1,← zaU m]; exact zgU (zbp m)
 have E1:=fun (k:Int→Int→Option Bool)=>zjR L (by omega) sl hsl (1+bl) nu ht' (by omega) (by omega) n1 (by omega) k
 have E2:=fun (k:Int→Int→Option Bool)=>zjR L (by omega) m (by rw [hms.1]; exact hsl) (1+bl) nu ht' (by omega) (by omega) n1 (by omega) k
 have E3:=fun (k:Int→Int→Option Bool)=>zjR L (by omega) sl hsl (1+bl) ls ht' (by omega) (by omega) s1 (by omega) k
 simp only [hms.est] at E2
 have mono:=zj6 (Wc (1+bl) sl) (Tc (1+bl) ht' sl) (show ls≤nu by omega) 10 2 24 0 0 0 (by omega) (by omega) (.inl rfl)
 have cls:=zkB (Wc (1+bl) sl) (Tc (1+bl) ht' sl) nu 10 2 24 0 0 0
 simp only [zaG,qb,qn,qh,w1,w2,ql,y7,ec,E1,E2,E3]
 generalize est (Wc (1+bl) sl) (Tc (1+bl) ht' sl) nu 10 2 24 0 0 0=u at mono cls
 generalize est (Wc (1+bl) sl) (Tc (1+bl) ht' sl) ls 10 2 24 0 0 0=w at mono
 have both:∀ (b:Bool) (x:Option Bool),ifb b x x=x:=fun b x=>by cases b <;> rfl
 rw [both]
 simp only [zn3,zlD,if_true,zaK,zqg]
 by_cases hu:u=0
 ·simp only [hu,if_true]; rfl
 ·obtain ⟨g1,g2⟩:=mono hu
  rcases cls with e | ⟨j,j1,e⟩
  ·exact absurd e hu
  ·simp only [if_neg hu,if_neg g1,if_true,if_neg (show ¬ w > u by omega)]
   rw [zri L (by omega),e,zry j1,zpt L (by omega) j j1]
   simp
end
section
namespace feesOrderL
open Go.ChangeShapes Go.WideShapes Go.ChangeAt Go.RowKit
set_option linter.unusedVariables false
theorem own:ownKnob Try.prog.godebug=none:=by kernel_rfl
theorem zfT:laidOutB Try.prog=true:=by kernel_rfl
set_option maxRecDepth 100000 in
theorem zrf (os:Os) (started:os.Started) (H:Type) (enc:TypeId × Value→H) :
  ReturnsInHanded {} Try.checked os 5 .any (Rows.feesOrderSpec.pre6 enc Try.prog Try.f5 Rows.feesOrderRow.domain false) (Rows.feesOrderSpec.post enc Try.prog Try.f5 false true false false):=by
 refine returnsInHanded_of_change (C:=Try.checked) own started (by kernel_rfl) Try.func5
  (ChangeSpec.witness6 (enc:=enc) (C:=Try.checked) false ⟨#[],#[.slice none 0 0,.int .i64 0,.int .i64 0,.int .i64 0,.int .i64 0,.int .i64 0],[]⟩ 8 (by kernel_rfl) (by kernel_rfl) (by kernel_rfl) (by kernel_rfl)) ?_
 intro W base args ds gs before hval0 hW hcnd _
 have hval:∀ (j:Nat) t v,Try.f5.params[j]?=some t→args[j]?=some v→Value.okWide Try.prog W .any base t v:=hval0
 have hW':=hW
 obtain ⟨p,q,hA0,hV,rfl,hfz,hnd⟩:=hW
 have hA:DataW.TrodAll enc Try.prog W 0 (fun _=>true) true Try.f5.params.toList args.toList ds p:=hA0
 rw [Try.params5] at hA hval
 obtain ⟨v0,vs0,d0,ds0,p0,q0,hargs,rfl,rfl,h0,r0⟩:=trodAll_cons hA
 obtain ⟨v1,vs1,d1,ds1,p1,q1,rfl,rfl,rfl,h1,r1⟩:=trodAll_cons r0
 obtain ⟨v2,vs2,d2,ds2,p2,q2,rfl,rfl,rfl,h2,r2⟩:=trodAll_cons r1
 obtain ⟨v3,vs3,d3,ds3,p3,q3,rfl,rfl,rfl,h3,r3⟩:=trodAll_cons r2
 obtain ⟨v4,vs4,d4,ds4,p4,q4,rfl,rfl,rfl,h4,r4⟩:=trodAll_cons r3
 obtain ⟨v5,vs5,d5,ds5,p5,q5,rfl,rfl,rfl,h5,r5⟩:=trodAll_cons r4
 obtain ⟨rfl,rfl,rfl⟩:=trodAll_nil r5
 obtain rfl:args=#[v0,v1,v2,v3,v4,v5]:=by cases args; simp_all
 obtain ⟨rfl,rfl⟩:=trodVars_none hV
 have k0:=h0
 have lt0:∀ x ∈ p0,x.block < W.heap.size:=by obtain ⟨m,hm⟩:=k0; exact DataW.trod_lt m _ _ _ hm
 have k1:=h1
 have lt1:∀ x ∈ p1,x.block < W.heap.size:=by obtain ⟨m,hm⟩:=k1; exact DataW.trod_lt m _ _ _ hm
 have k2:=h2
 have lt2:∀ x ∈ p2,x.block < W.heap.size:=by obtain ⟨m,hm⟩:=k2; exact DataW.trod_lt m _ _ _ hm
 have k3:=h3
 have lt3:∀ x ∈ p3,x.block < W.heap.size:=by obtain ⟨m,hm⟩:=k3; exact DataW.trod_lt m _ _ _ hm
 have k4:=h4
 have lt4:∀ x ∈ p4,x.block < W.heap.size:=by obtain ⟨m,hm⟩:=k4; exact DataW.trod_lt m _ _ _ hm
 have k5:=h5
 have lt5:∀ x ∈ p5,x.block < W.heap.size:=by obtain ⟨m,hm⟩:=k5; exact DataW.trod_lt m _ _ _ hm
 obtain ⟨A0,len0,cap0,rfl⟩:=okWide_slice Try.underlying24 (hval 0 24 v0 rfl rfl)
 obtain ⟨x0,hx0,rp0⟩:=zqz (r:=.any) (b0:=base) (ren:=yS fg gls) (d:=20) (ct:=.sl ([.int .i64])) rfl h0 (by kernel_rfl)
 obtain ⟨a0,rfl,hl0,wf0⟩:=hx0.sl_inv
 obtain ⟨a1,rfl,rfl,rfl,wf1⟩:=open_int Try.underlying3 (hval 1 3 v1 rfl rfl) h1
 obtain ⟨a2,rfl,rfl,rfl,wf2⟩:=open_int Try.underlying3 (hval 2 3 v2 rfl rfl) h2
 obtain ⟨a3,rfl,rfl,rfl,wf3⟩:=open_int Try.underlying3 (hval 3 3 v3 rfl rfl) h3
 obtain ⟨a4,rfl,rfl,rfl,wf4⟩:=open_int Try.underlying3 (hval 4 3 v4 rfl rfl) h4
 obtain ⟨a5,rfl,rfl,rfl,wf5⟩:=open_int Try.underlying3 (hval 5 3 v5 rfl rfl) h5
 clear hA0 hval0
 obtain ⟨L,hL⟩:=zkZ a0 a1 a2 a3 a4 a5 hl0 wf0 wf1 wf2 wf3 wf4 wf5
 have hd:zbG xP L Bool [(V.sl 1 a0),(V.sc (.int .i64 a1)),(V.sc (.int .i64 a2)),(V.sc (.int .i64 a3)),(V.sc (.int .i64 a4)),(V.sc (.int .i64 a5))] [] zjf=some true:=by
  show (aL 1 (V.sl 1 a0) fun x0=>aI .i64 (V.sc (.int .i64 a1)) fun x1=>aI .i64 (V.sc (.int .i64 a2)) fun x2=>aI .i64 (V.sc (.int .i64 a3)) fun x3=>aI .i64 (V.sc (.int .i64 a4)) fun x4=>aI .i64 (V.sc (.int .i64 a5)) fun x5=>xP Bool L x0 x1 x2 x3 x4 x5 (fun p=>zjf (V.sc (.bool p)) []))=some true
  rw [zrO,zk1,zk1,zk1,zk1,zk1]
  exact (hL (fun p=>zjf (V.sc (.bool p)) [])).trans rfl
 obtain ⟨v,b,hev,hk⟩:=zid L 100 (by decide) Bool [(V.sl 1 a0),(V.sc (.int .i64 a1)),(V.sc (.int .i64 a2)),(V.sc (.int .i64 a3)),(V.sc (.int .i64 a4)),(V.sc (.int .i64 a5))] [] zjf true hd
 have hv:=zoY hk
 subst hv
 refine (zoH (us:=[.slice A0 len0 cap0,.int .i64 a1,.int .i64 a2,.int .i64 a3,.int .i64 a4,.int .i64 a5]) (w:=W) (fun _ _ h=>by cases h) (zrD L 100) (f:=5) (by kernel_rfl) rfl (fun i x u hx hu=>?_) hev).mono fun e W' ⟨he,bel0⟩=>?_
 ·match i,hx,hu with
  | 0,hx,hu=>cases hx; cases hu; exact rp0
  | 1,hx,hu=>cases hx; cases hu; exact .sc _ rfl
  | 2,hx,hu=>cases hx; cases hu; exact .sc _ rfl
  | 3,hx,hu=>cases hx; cases hu; exact .sc _ rfl
  | 4,hx,hu=>cases hx; cases hu; exact .sc _ rfl
  | 5,hx,hu=>cases hx; cases hu; exact .sc _ rfl
  | n+6,hx,hu=>simp at hx
 ·have bel:=Kept.below bel0
  subst he
  exact ⟨_,rfl,_,_,_,[],_,[],hW',trodAll_mk1 (shut_bool Try.underlying4 _),(trodAll_cons_mk (Below.trod zfT (by kernel_rfl) (of_decide_eq_true (by kernel_rfl)) k0 bel lt0) (trodAll_cons_mk (Below.trod zfT (by kernel_rfl) (of_decide_eq_true (by kernel_rfl)) k1 bel lt1) (trodAll_cons_mk (Below.trod zfT (by kernel_rfl) (of_decide_eq_true (by kernel_rfl)) k2 bel lt2) (trodAll_cons_mk (Below.trod zfT (by kernel_rfl) (of_decide_eq_true (by kernel_rfl)) k3 bel lt3) (trodAll_cons_mk (Below.trod zfT (by kernel_rfl) (of_decide_eq_true (by kernel_rfl)) k4 bel lt4) (trodAll_cons_mk (Below.trod zfT (by kernel_rfl) (of_decide_eq_true (by kernel_rfl)) k5 bel lt5) trodAll_mk0)))))),rfl,bel.frame _,fun h=>by cases h⟩
theorem over:Rows.feesOrderRow.holds Try.pinned (OpenSpec.ofChange Rows.feesOrderSpec) :=
 OpenClaim.holds_of_wide 5 Try.f5 rfl rfl rfl rfl rfl rfl rfl ⟨rfl,rfl,rfl,rfl,rfl⟩ rfl rfl rfl rfl rfl (by kernel_rfl) Try.func5 (by kernel_rfl)
  (of_decide_eq_true (by kernel_rfl)) (by unfold Func.isWrapper; first | (rw [if_pos (by decide +kernel)]; kernel_rfl) | (rw [if_neg (by decide +kernel)]; exact ⟨rfl,rfl⟩))
  (fun os started H enc _=>zrf os started H enc)
end feesOrderL
theorem feesOrder_holds:Rows.FeesOrderSaid:=feesOrderL.over
end
end Go.Proofs.Ythplooifbkopgaa
