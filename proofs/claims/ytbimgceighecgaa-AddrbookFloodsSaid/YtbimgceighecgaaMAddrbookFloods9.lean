/- Part 9 of the proof of AddrbookFloods: an abstract machine over plain values, its soundness, and the functions of the program on plain values. -/
import Derived.Test.YtbimgceighecgaaRows
import Derived.Shelf.Spec.SlicesInsertGrow
import Derived.Lib.Overlaps
import Derived.Test.YtbimgceighecgaaMAddrbookFloods8
namespace Go.Proofs.Ytbimgceighecgaa
set_option linter.unusedVariables false
set_option linter.unusedSimpArgs false
open Nat renaming mul_le_mul_right->WG,add_mul->WF,min->XE,zero_add->WB
open List renaming size_toArray->Qy,getElem?_take->Wn,getElem?_toArray->W5,length_append->Wm,length_drop->XD,getElem?_eq_getElem->Wb,getElem?_append->Wx,getElem?_drop->Wp,getElem?_eq_some_iff->Wh,getElem_of_mem->W6
open _root_.Array renaming getElem?_append_left->W8,size_append->QB,getElem?_eq_some_iff->Qz
open IntKind renaming wrap_i64->XF
section
open Go.Lib
variable {ren:Rn} {we:World} {ωe:Nat→Ow} {U:Nat→Nat→Prop} {O:Nat→Prop} {σ:St} {a:Act} {w:World} {ω:Nat→Ow} {μ:Nat→Nat} {P:Program}
theorem zr5{P:Program}(w:World){dT sT ty elem:TypeId}{sz:Nat}(hu:P.underlying dT=some (.slice elem))(hs:(P.info? elem).map (·.size)=some sz)(g o dLen dCap:Nat)(a:Addr)(sLen sCap:Nat)(cur:Array Value)(t:TypeId)(cs:List Value)
  (hg:w.heap[g]?=some (.cells cur t (0,0))) (hn:cs.length=XE sLen dLen*sz)
  (hsrc:∀ j v,cs[j]?=some v→w.cell? (a.add j)=some v) (hfit:o+cs.length≤cur.size) (h1:∀ v∈cs,v.oneCell'=true) :
  (Builtin.copy_ #[dT,sT] ty #[.slice (some ⟨g,o,none⟩) dLen dCap,.slice (some a) sLen sCap]).run P w =
   .ok (goInt (XE sLen dLen)) (w.setRow g (cur.toList.take o++cs++cur.toList.drop (o+cs.length)).toArray):=by
 have hl:=run_loadCells_list (P:=P) w a cs hsrc
 have hst:=run_storeCells_at P g o t cs 0 cur w hg (by simpa using hfit) h1
 cases hq:P.info? elem with
 | none=>simp [hq] at hs
 | some i=>
  have hi:i.size=sz:=by simpa [hq] using hs
  simp [Builtin.copy_,run_underlying hu,Builtin.lenOf,Builtin.firstCells,sizeOf,typeInfo,hq,hi,← hn,hl,hst]
structure InsW (P:Program) (f:FuncId) (T I e:TypeId) (ov:FuncId) (sz bytes:Nat):Prop where
 ty:P.underlying T=some (.slice e)
 it:∃ k,P.underlying I=some (.int k)
 inf:∃ i z,P.info? e=some i∧i.zero=some z∧i.size=sz∧i.bytes=bytes∧z.cells.size=sz
 pos:0<sz
 ovl:∀ (w:World) (vb b o2 m vc lb cb:Nat) (A1 A2:Array Value) (T1 T2:TypeId),vb≠b→w.heap[vb]?=some (.cells A1 T1 (0,0))→w.heap[b]?=some (.cells A2 T2 (0,0))→A2.size≠0 →
  (callFunc ov #[.slice (some ⟨vb,0,none⟩) m vc,.slice (some ⟨b,o2,none⟩) lb cb]).run P w=.ok (.value (.bool false)) w
 e:∀ (A:Option Addr) (n c vb m vc:Nat) (w w1:World) (r:Value),0<m→(A=none→n=0∧c=0)→n≤c→n+m≤140737488355328 →
  (∀ ty,(Builtin.append_ #[T,T] ty #[.slice A n c,.slice (some ⟨vb,0,none⟩) m vc]).run P w=.ok r w1) →
  Calls P f #[.slice A n c,.int .i64 n,.slice (some ⟨vb,0,none⟩) m vc] w fun e w'=>e=.returned r∧w'=w1
 s:∀ (b n c i vb m vc:Nat) (w:World),i<n→0<m→n+m≤c→n+m≤140737488355328→vb≠b→∀ (r1 r2:Value) (w1 w2:World),
  (∀ lb cb,(callFunc ov #[.slice (some ⟨vb,0,none⟩) m vc,.slice (some ⟨b,(i+m)*sz,none⟩) lb cb]).run P w=.ok (.value (.bool false)) w) →
  (∀ ty dc sc,(Builtin.copy_ #[T,T] ty #[.slice (some ⟨b,(i+m)*sz,none⟩) (n+m-(i+m)) dc,.slice (some ⟨b,i*sz,none⟩) (n+m-i) sc]).run P w.drew=.ok r1 w1) →
  (∀ ty dc,(Builtin.copy_ #[T,T] ty #[.slice (some ⟨b,i*sz,none⟩) (n+m-i) dc,.slice (some ⟨vb,0,none⟩) m vc]).run P w1=.ok r2 w2) →
  Calls P f #[.slice (some ⟨b,0,none⟩) n c,.int .i64 i,.slice (some ⟨vb,0,none⟩) m vc] w fun e w'=>e=.returned (.slice (some ⟨b,0,none⟩) (n+m) c)∧w'=w2
 g:∀ (b n c i vb m vc N G:Nat) (w:World),i<n→0<m→n≤c→c<n+m→n+m≤140737488355328→n+m≤G→∀ (r1 r2:Value) (w1 w2 w3:World),
  (∀ ty,(Builtin.append_ #[T,I] ty #[.slice (some ⟨b,0,none⟩) i c,.int .i64 ((n:Int)+(m:Int)-(i:Int))]).run P w=.ok (.slice (some ⟨N,0,none⟩) (n+m) G) w1) →
  (∀ ty dc,(Builtin.copy_ #[T,T] ty #[.slice (some ⟨N,i*sz,none⟩) (n+m-i) dc,.slice (some ⟨vb,0,none⟩) m vc]).run P w1=.ok r1 w2) →
  (∀ ty dc sc,(Builtin.copy_ #[T,T] ty #[.slice (some ⟨N,(i+m)*sz,none⟩) (n+m-(i+m)) dc,.slice (some ⟨b,i*sz,none⟩) (n-i) sc]).run P w2.drew=.ok r2 w3) →
  Calls P f #[.slice (some ⟨b,0,none⟩) n c,.int .i64 i,.slice (some ⟨vb,0,none⟩) m vc] w fun e w'=>e=.returned (.slice (some ⟨N,0,none⟩) (n+m) G)∧w'=w3
theorem Rel.one(R:Rel ren we ωe U O σ a w ω μ){b':List B}(hb:∀ (id:Nat) (x:B),b'[id]?=some x→σ.b[id]?=some x)(hl:∀ (id:Nat) (cs:List V),b'[id]?≠some (.live false cs)){sz:Nat}{es:List (List V)}{u:Value}(h:Rep ren (env U σ w ω μ) (.slot 0 0) (.fr sz es) u) :
  Rel ren we ωe U O ⟨[.fr sz es],b'⟩ ⟨#[u],[]⟩ w ω μ:=by
 refine ⟨rfl,rfl,fun i v hv=>?_,fun id p cs hid=>?_,fun id cs hid=>R.fs id cs (hb _ _ hid),fun id es' hid=>R.ms id es' (hb _ _ hid),R.kp,R.ow,R.ul,R.fr,R.rs,R.gv⟩
 ·cases i with
  | zero=>
   cases hv
   show Rep ren _ _ _ u
   cases h with
   | pure h=>cases h
   | fr _ _ β c arr T f hω hb hc hn hsz hcell h1 h=>exact .fr _ _ β c arr T f hω hb hc hn hsz hcell h1 h
   | fr0 _ A=>exact .fr0 _ A
  | succ i=>simp at hv
 ·cases p with
  | false=>exact absurd hid (hl id cs)
  | true=>
   rcases R.bs id true cs (hb _ _ hid) with h | ⟨h0,arr,T,h1,h2,h3⟩
   ·exact .inl h
   ·exact .inr ⟨h0,arr,T,h1,h2,fun j c hj=>by obtain ⟨x,q1,q2,q3,_⟩:=h3 j c hj; exact ⟨x,q1,q2,q3,.pure (q3 rfl)⟩⟩
theorem Rel.more(R:Rel ren we ωe U O σ a w ω μ)(hp:∀ (id:Nat) (cs:List V),σ.b[id]?≠some (.live false cs)){bs:List B}(hb:σ.b=bs)(ht:σ.t=[]):Rel ren we ωe U O ⟨[],bs++[.gone]⟩ a w ω μ:=by
 have low:∀ {id:Nat} {x:B},(bs++[B.gone])[id]?=some x→x≠.gone→σ.b[id]?=some x:=by
  intro id x h hx
  rw [hb]
  rw [Wx] at h
  split at h
  ·exact h
  ·rename_i hlt
   cases hk:id-bs.length with
   | zero=>rw [hk] at h; cases h; exact absurd rfl hx
   | succ k=>rw [hk] at h; simp at h
 refine ⟨R.df,by have:=R.tl; rw [ht] at this; simpa using this,fun i v hv=>by simp at hv,fun id p cs hid=>?_,fun id cs hid=>R.fs id cs (low hid (by simp)),fun id es' hid=>R.ms id es' (low hid (by simp)),R.kp,R.ow,R.ul,R.fr,R.rs,R.gv⟩
 cases p with
 | false=>exact absurd (low hid (by simp)) (hp id cs)
 | true=>
  rcases R.bs id true cs (low hid (by simp)) with h | ⟨h0,arr,T,h1,h2,h3⟩
  ·exact .inl h
  ·exact .inr ⟨h0,arr,T,h1,h2,fun j c hj=>by obtain ⟨x,q1,q2,q3,_⟩:=h3 j c hj; exact ⟨x,q1,q2,q3,.pure (q3 rfl)⟩⟩
theorem Rel.noT1(R:Rel ren we ωe U O σ a w ω μ):Rel ren we ωe U O ⟨[.junk],σ.b⟩ ⟨#[undef],[]⟩ w ω μ:=
 ⟨rfl,rfl,fun i v h=>(by
  cases i with
  | zero=>cases h; exact .junk
  | succ i=>simp at h),R.bs,R.fs,R.ms,R.kp,R.ow,R.ul,R.fr,R.rs,R.gv⟩
theorem Rel.noT(R:Rel ren we ωe U O σ a w ω μ):Rel ren we ωe U O ⟨[],σ.b⟩ ⟨#[],[]⟩ w ω μ:=
 ⟨rfl,rfl,fun i v h=>by simp at h,R.bs,R.fs,R.ms,R.kp,R.ow,R.ul,R.fr,R.rs,R.gv⟩
theorem zGF(sz n m i:Nat)(cs vs:List V):(zoA sz n m i cs vs).length=n+m:=xB _ _ _
theorem zFJ{sz n m i:Nat}{cs vs:List V}(hi:i≤n)(hc:n*sz≤cs.length)(hv:vs.length=m*sz):(zoA sz n m i cs vs).flatten=cs.take (i*sz)++vs++(cs.take (n*sz)).drop (i*sz):=by
 unfold zoA
 rw [zad,List.take_of_length_le]
 have h:=WG sz hi
 simp only [Wm,List.length_take,XD,hv,WF]
 omega
theorem zFD{sz n m i:Nat}{cs vs:List V}(hi:i≤n)(hc:n*sz≤cs.length)(hv:vs.length=m*sz):∀ e∈zoA sz n m i cs vs,e.length=sz:=by
 refine za1 sz _ _ ?_
 have h:=WG sz hi
 simp only [Wm,List.length_take,XD,hv,WF]
 omega
theorem zBI{sz n m i:Nat}{cs vs:List V}(hi:i≤n)(hc:n*sz≤cs.length)(hv:vs.length=m*sz){j:Nat}{v:V}(h:(zoA sz n m i cs vs).flatten[j]?=some v) :
  (j<i*sz∧cs[j]?=some v)∨(i*sz≤j∧j<i*sz+m*sz∧vs[j-i*sz]?=some v)∨(i*sz+m*sz≤j∧j<n*sz+m*sz∧cs[j-m*sz]?=some v):=by
 rw [zFJ hi hc hv] at h
 have h0:=WG sz hi
 have hl:(cs.take (i*sz)).length=i*sz:=by simp; omega
 rw [List.append_assoc,Wx] at h
 split at h
 ·rename_i hj
  rw [hl] at hj
  rw [Wn,if_pos hj] at h
  exact .inl ⟨hj,h⟩
 ·rename_i hj
  rw [hl] at hj h
  rw [Wx] at h
  split at h
  ·rename_i hj2
   rw [hv] at hj2
   exact .inr (.inl ⟨by omega,by omega,h⟩)
  ·rename_i hj2
   rw [hv] at hj2 h
   rw [Wp,Wn] at h
   split at h
   ·rename_i hj3
    exact .inr (.inr ⟨by omega,by omega,by rw [show j-m*sz=i*sz+(j-i*sz-m*sz) by omega]; exact h⟩)
   ·cases h
theorem zvL(w:World)(A B:Array Value)(T:TypeId):(w.alloc (.cells A T)).setRow w.heap.size B=w.alloc (.cells B T):=by
 unfold World.setRow World.alloc
 congr 1
 apply Array.ext
 ·simp
 ·intro i h1 h2
  simp only [Array.getElem_modify,Array.getElem_push]
  by_cases hi:w.heap.size=i
  ·subst hi; simp
  ·have:i<w.heap.size:=by simp at h1; omega
   simp [hi,this]
theorem zC7(w:World)(g:Nat)(B:Array Value):w.drew.setRow g B=(w.setRow g B).drew:=rfl
theorem zxM{Wr:Nat→Nat→Prop}{arr0 arr1 X:Array Value}{sz n m i:Nat}{cs vs:List V}(hi:i≤n)(hc:n*sz≤cs.length)(hv:vs.length=m*sz)
  (h0:∀ (j:Nat) (c:V),cs[j]?=some c→∃ u,arr0[j]?=some u∧u.oneCell'=true∧RepP ren w Wr c u)
  (h1:∀ (j:Nat) (c:V),vs[j]?=some c→∃ u,arr1[j]?=some u∧u.oneCell'=true∧RepP ren w Wr c u)
  (ha:∀ j,j<i*sz→X[j]?=arr0[j]?) (hb:∀ j,i*sz≤j→j<i*sz+m*sz→X[j]?=arr1[j-i*sz]?) (hd:∀ j,i*sz+m*sz≤j→j<n*sz+m*sz→X[j]?=arr0[j-m*sz]?) :
  ∀ (j:Nat) (c:V),(zoA sz n m i cs vs).flatten[j]?=some c→∃ u,X[j]?=some u∧u.oneCell'=true∧RepP ren w Wr c u:=by
 intro j c hj
 rcases zBI hi hc hv hj with ⟨q1,q2⟩ | ⟨q1,q2,q3⟩ | ⟨q1,q2,q3⟩
 ·rw [ha j q1]; exact h0 j c q2
 ·rw [hb j q1 q2]; exact h1 _ c q3
 ·rw [hd j q1 q2]; exact h0 _ c q3
theorem zDb{args:List V}{us:List Value}{cs vs:List V}(R:Rel ren we ωe U O ⟨args,[.live true cs,.live true vs]⟩ ⟨us.toArray,[]⟩ w ω μ){sz:Nat}{es:List (List V)}{T:TypeId}{X:Array Value}{c:Nat}(hsz:∀ e∈es,e.length=sz){N:Nat}(hN:es.length=N)(hn:N≤c)(hne:es≠[])(hc:c*sz≤X.size)
  (hcell:∀ (i:Nat) (v:V),es.flatten[i]?=some v→∃ u,X[i]?=some u∧u.oneCell'=true∧RepP ren w (wr U ω) v u) :
  ∃ ω',Rel ren we ωe U O ⟨[.fr sz es],[.dead cs.length,.live true vs]⟩ ⟨#[.slice (some ⟨w.heap.size,0,none⟩) N c],[]⟩ (w.drew.alloc (.cells X T)) ω' μ:=by
 subst hN
 obtain ⟨_,R1⟩:=R.deaden (id:=0) rfl
 obtain ⟨F3,R3⟩:=R1.noT1.drew
 obtain ⟨ω',R4⟩:=zBP R3 (dst:=some 0) (T:=T) hsz hn hne hc (fun i v hv=>by
  obtain ⟨u,g1,g2,g3⟩:=hcell i v hv
  exact ⟨u,g1,g2,g3.mono F3.st⟩)
 exact ⟨ω',R4⟩
theorem zDI{args:List V}{us:List Value}{cs vs:List V}(R:Rel ren we ωe U O ⟨args,[.live true cs,.live true vs]⟩ ⟨us.toArray,[]⟩ w ω μ)(hcs:cs≠[]){sz:Nat}{es:List (List V)}{T:TypeId}{A X:Array Value}{c:Nat}(hA:w.heap[μ 0]?=some (.cells A T (0,0)))(hX:X.size=A.size)(hsz:∀ e∈es,e.length=sz){N:Nat}(hN:es.length=N)(hpos:0<sz)(hn:N≤c)(hne:es≠[])(hc:c*sz≤X.size)
  (hcell:∀ (i:Nat) (v:V),es.flatten[i]?=some v→∃ u,X[i]?=some u∧u.oneCell'=true∧RepP ren w (wr U ω) v u) :
  ∃ ω' μ',Rel ren we ωe U O ⟨[.fr sz es],[.dead cs.length,.live true vs]⟩ ⟨#[.slice (some ⟨μ 0,0,none⟩) N c],[]⟩ (w.setRow (μ 0) X) ω' μ'∧∀ k,k<2→μ' k=μ k:=by
 subst hN
 have hfl:=z7 hsz
 have hes:es.flatten≠[]:=by
  intro e
  rw [e] at hfl
  have:0<es.length:=List.length_pos_iff.2 hne
  have:=Nat.mul_pos this hpos
  simp at hfl; omega
 have hle:es.flatten.length≤X.size:=by rw [hfl]; exact Nat.le_trans (WG sz hn) hc
 have R1:=R.noT.more (bs:=[.live true cs,.live true vs]) (fun id cs' h=>by
  match id,h with
  | 0,h=>cases h
  | 1,h=>cases h
  | k+2,h=>simp at h) rfl rfl
 obtain ⟨F2,R2⟩:=R1.rehome (id:=0) (id2:=2) (cs:=cs) (cs2:=es.flatten) rfl hcs rfl hA hX hle hcell
 obtain ⟨F3,R3⟩:=R2.unhome (id:=2) (cs:=es.flatten) rfl hes (.slot 0 0) 0
 have e2:upd μ 2 (μ 0) 2=μ 0:=zC _ _ _
 have hrow:=setRow_heap w (μ 0) A X T _ hA
 refine ⟨_,_,R3.one (b':=[.dead cs.length,.live true vs]) (fun id x h=>?_) (fun id cs' h=>?_) ?_,fun k hk=>yq _ _ (by omega)⟩
 ·match id,h with
  | 0,h=>cases h; rfl
  | 1,h=>cases h; rfl
  | k+2,h=>simp at h
 ·match id,h with
  | 0,h=>cases h
  | 1,h=>cases h
  | k+2,h=>simp at h
 ·refine .fr sz es (μ 0) c X T (fun i=>X.toList.getD i undef) ?_ hrow hc ⟨hn,fun e=>absurd e hne⟩ hsz (fun i v hv=>?_) (fun i v hv=>?_) (fun i v hv=>?_)
  ·show upd _ (upd μ 2 (μ 0) 2) _ (μ 0)=_
   rw [e2]; exact zC _ _ _
  all_goals
   (obtain ⟨u,g1,g2,g3⟩:=hcell i v hv
    have g1':X.toList[i]?=some u:=by simpa using g1
    have e:X.toList.getD i undef=u:=by rw [List.getD_eq_getElem?_getD,g1']; rfl
    simp only [e])
  ·exact g1
  ·exact g2
  ·exact (g3.mono F2.st).mono F3.st
set_option maxHeartbeats 1000000 in
theorem zIo{f:FuncId}{T I e:TypeId}{ov:FuncId}{sz bytes:Nat}(W:InsW P f T I e ov sz bytes)(hc:ze5 P f=true):zBF P ren sz bytes f:=by
 obtain ⟨kI,hI⟩:=W.it
 obtain ⟨i0,z,hi0,hz,hisz,hby,hzc⟩:=W.inf
 have pos:=W.pos
 refine ⟨hc,fun n m i cs vs hk w us U O ω μ R=>?_⟩
 obtain ⟨k0,k1,hm,hcl,hvl,hbig,hsm⟩:=hk
 obtain ⟨i,rfl⟩:∃ j:Nat,i=j:=⟨i.toNat,by omega⟩
 have hin:i≤n:=by omega
 rw [Int.toNat_natCast]
 unfold xq at hbig hsm
 have hlen:us.length=3:=by have:=R.tl; simpa using this
 obtain ⟨u0,u1,u2,rfl⟩:∃ u0 u1 u2,us=[u0,u1,u2]:=by
  match us,hlen with
  | [a,b,c],_=>exact ⟨a,b,c,rfl⟩
 have r0:Rep ren _ (.slot 0 0) (.own 0 0 n sz) u0:=R.ts 0 _ rfl
 have r1:Rep ren _ (.slot 1 0) (.sc (.int .i64 i)) u1:=R.ts 1 _ rfl
 have r2:Rep ren _ (.slot 2 0) (.own 1 0 m sz) u2:=R.ts 2 _ rfl
 obtain ⟨id0,off0,len0,sz0,c,L0,A,e0,rfl,hL0,hl0,hc0,hz0,hA0⟩:=r0.ownAt
 cases e0
 obtain ⟨id1,off1,len1,sz1,vc,L1,A1,e1,rfl,hL1,hl1,hc1,hz1,hA1⟩:=r2.ownAt
 cases e1
 obtain ⟨rfl,_⟩:=r1.sc_eq
 have hL0:some cs.length=some L0:=hL0
 have hL1:some vs.length=some L1:=hL1
 cases hL0
 cases hL1
 have hmz:0<m*sz:=Nat.mul_pos hm pos
 have hvne:vs≠[]:=by rintro rfl; simp at hvl; omega
 obtain ⟨q0,arr1,T1,hv1,hv2,hv3⟩:=R.live (id:=1) rfl hvne
 rcases hA1 with ⟨rfl,hA1⟩ | hA1
 rotate_left
 ·omega
 have hV:∀ (j:Nat) (c:V),vs[j]?=some c→∃ u,arr1[j]?=some u∧u.oneCell'=true∧RepP ren w (wr U ω) c u:=fun j c hj=>by
  obtain ⟨u,g1,g2,g3,_⟩:=hv3 j c hj
  exact ⟨u,g1,g2,g3 rfl⟩
 have hnl:(arr1.toList.take (m*sz)).length=m*sz:=by simp; omega
 have hng:∀ (j:Nat),j<m*sz→(arr1.toList.take (m*sz))[j]?=arr1[j]?:=fun j hj=>by rw [Wn,if_pos hj]; simp
 have hn1:∀ u∈arr1.toList.take (m*sz),u.oneCell'=true:=by
  intro u hu
  obtain ⟨j,hj,rfl⟩:=W6 hu
  have hj':j<m*sz:=by rw [← hnl]; exact hj
  obtain ⟨u',g1,g2,_⟩:=hV j _ (Wb (by rw [hvl]; exact hj'))
  have:=hng j hj'
  rw [Wb hj,g1] at this
  cases this; exact g2
 have hsrc:∀ {w':World},w'.heap[μ 1]?=w.heap[μ 1]?→∀ (j:Nat) (u:Value),(arr1.toList.take (m*sz))[j]?=some u→w'.cell? ((⟨μ 1,0,none⟩:Addr).add j)=some u:=by
  intro w' hw' j u hu
  have hj:j<m*sz:=by have:=(Wh.1 hu).1; rw [hnl] at this; exact this
  rw [zck,WB,cell_of_row _ _ _ _ _ _ (hw'.trans hv1)]
  rw [hng j hj] at hu; exact hu
 have hrl:=zGF sz n m i cs vs
 have hre:=zFD (sz:=sz) hin hcl hvl
 have hrne:zoA sz n m i cs vs≠[]:=by intro e; rw [e] at hrl; simp at hrl; omega
 have addm:n*sz+m*sz=(n+m)*sz:=(WF n m sz).symm
 have hisz':=WG sz hin
 have hC:0<c→A=some ⟨μ 0,0,none⟩∧cs≠[]∧μ 1≠μ 0∧∃ arr0 T0,w.heap[μ 0]?=some (.cells arr0 T0 (0,0))∧cs.length≤arr0.size∧c*sz≤arr0.size∧(∀ (j:Nat) (c:V),cs[j]?=some c→∃ u,arr0[j]?=some u∧u.oneCell'=true∧RepP ren w (wr U ω) c u):=by
  intro hcp
  rcases hA0 with ⟨rfl,hA0⟩ | hA0
  rotate_left
  ·omega
  have hcs:cs≠[]:=by
   rintro rfl
   rcases hz0 rfl with h | h <;> omega
  obtain ⟨p0,arr0,T0,p1,p2,p3⟩:=R.live (id:=0) rfl hcs
  have hrs:xG w (μ 0)=arr0.size:=zbh p1
  have hA0:0+c*sz≤xG w (μ 0):=hA0
  refine ⟨rfl,hcs,fun e=>?_,arr0,T0,p1,p2,by omega,fun j c hj=>?_⟩
  ·rw [e,p0] at q0; cases q0
  ·obtain ⟨u,g1,g2,g3,_⟩:=p3 j c hj
   exact ⟨u,g1,g2,g3 rfl⟩
 have one0:∀ {arr0:Array Value},(∀ (j:Nat) (c:V),cs[j]?=some c→∃ u,arr0[j]?=some u∧u.oneCell'=true∧RepP ren w (wr U ω) c u)→∀ a b,a+b≤n*sz→∀ u∈(arr0.toList.drop a).take b,u.oneCell'=true:=by
  intro arr0 h0 a b hab u hu
  obtain ⟨j,hj,rfl⟩:=W6 hu
  have hj':j<b:=by simp at hj; omega
  obtain ⟨u',g1,g2,_⟩:=h0 (a+j) _ (Wb (by omega))
  have:((arr0.toList.drop a).take b)[j]?=some u':=by
   rw [Wn,if_pos hj',Wp]; simpa using g1
  rw [Wb hj] at this
  cases this; exact g2
 have hsub:i*sz+(n-i)*sz=n*sz:=by rw [← WF]; congr 1; omega
 have him:(i+m)*sz=i*sz+m*sz:=WF i m sz
 by_cases hie:i=n
 ·subst hie
  by_cases hroom:i+m≤c
  ·
   obtain ⟨rfl,hcs,hne,arr0,T0,hb0,hsz0,hcz,h0⟩:=hC (by omega)
   have hmc:=WG sz hroom
   have hfit:i*sz+(arr1.toList.take (m*sz)).length≤arr0.size:=by rw [hnl]; omega
   refine (W.e (some ⟨μ 0,0,none⟩) i c (μ 1) m vc w _ _ hm (fun h=>by cases h) hc0 hsm (fun ty=>by
    have:=zgO (P:=P) (ty:=ty) (w:=w) (B:=some ⟨μ 1,0,none⟩) (c2:=vc) (sCap:=c) (sLen:=i) (m:=m) W.ty hi0 hb0 (news:=arr1.toList.take (m*sz)) (by rw [hisz]; exact hnl) (fun _=>⟨_,rfl,hsrc rfl⟩) hn1 hroom (by rw [hisz]; exact hfit)
    rw [hisz] at this
    exact this)).mono ?_
   rintro e' w' ⟨rfl,rfl⟩
   have hX:(arr0.toList.take (i*sz)++arr1.toList.take (m*sz)++arr0.toList.drop (i*sz+(arr1.toList.take (m*sz)).length)).toArray.size=arr0.size:=by
    simp only [Qy,Wm,XD,hnl]; simp; omega
   have hget:∀ j,(arr0.toList.take (i*sz)++arr1.toList.take (m*sz)++arr0.toList.drop (i*sz+(arr1.toList.take (m*sz)).length)).toArray[j]?=if i*sz≤j∧j<i*sz+m*sz then (arr1.toList.take (m*sz))[j-i*sz]? else arr0.toList[j]?:=by
    intro j
    rw [W5,zdo (by simpa using hfit),hnl]
   obtain ⟨ω',μ',R',h'⟩:=zDI R hcs hb0 hX hre hrl pos hroom hrne (by rw [hX]; exact hcz) (zxM hin hcl hvl h0 hV (fun j hj=>by rw [hget,if_neg (by omega)]; simp) (fun j h1 h2=>by rw [hget,if_pos ⟨h1,h2⟩,hng _ (by omega)]) (fun j h1 h2=>by omega))
   exact ⟨_,ω',μ',rfl,R',h'⟩
  ·
   have hG:=grownCap_ge w (i+m) c e
   have holds:∃ olds:List Value,olds.length=i*sz∧(olds≠[]→∃ ad,A=some ad∧∀ (j:Nat) (u:Value),olds[j]?=some u→w.cell? (ad.add j)=some u)∧∀ (j:Nat) (c:V),j<i*sz→cs[j]?=some c→∃ u,olds[j]?=some u∧u.oneCell'=true∧RepP ren w (wr U ω) c u:=by
    by_cases hi0':i=0
    ·subst hi0'; exact ⟨[],by simp,fun h=>absurd rfl h,fun j c hj=>by omega⟩
    ·obtain ⟨rfl,hcs,hne,arr0,T0,hb0,hsz0,hcz,h0⟩:=hC (by omega)
     refine ⟨arr0.toList.take (i*sz),by simp; omega,fun _=>⟨_,rfl,fun j u hu=>?_⟩,fun j c hj hc=>?_⟩
     ·rw [Wn] at hu
      split at hu
      ·rw [zck,WB,cell_of_row _ _ _ _ _ _ hb0]; simpa using hu
      ·cases hu
     ·obtain ⟨u,g1,g2,g3⟩:=h0 j c hc
      exact ⟨u,by rw [Wn,if_pos hj]; simpa using g1,g2,g3⟩
   obtain ⟨olds,ho1,ho2,ho3⟩:=holds
   refine (W.e A i c (μ 1) m vc w _ _ hm (fun h=>by
    rcases hA0 with ⟨h',_⟩ | h'
    ·rw [h] at h'; cases h'
    ·exact h') hc0 hsm (fun ty=>by
    exact zeh (P:=P) (ty:=ty) (w:=w) (B:=some ⟨μ 1,0,none⟩) (c2:=vc) (sCap:=c) (sLen:=i) (m:=m) W.ty hi0 hz (olds:=olds) (by rw [hisz]; exact ho1) ho2 (news:=arr1.toList.take (m*sz)) (by rw [hisz]; exact hnl) (fun _=>⟨_,rfl,hsrc rfl⟩) (by omega) (by rw [hby]; exact hbig) hsm)).mono ?_
   rintro e' w' ⟨rfl,rfl⟩
   have hX:grownCap w (i+m) c e*sz≤(olds.toArray++(arr1.toList.take (m*sz)).toArray++Builtin.zeroCells z.cells (grownCap w (i+m) c e-(i+m))).size:=by
    simp only [QB,Qy,hnl,ho1,size_zeroCells,hzc]
    rw [← WF,← WF]
    exact WG sz (by omega)
   have hget:∀ j,j<i*sz+m*sz→(olds.toArray++(arr1.toList.take (m*sz)).toArray++Builtin.zeroCells z.cells (grownCap w (i+m) c e-(i+m)))[j]?=(olds++arr1.toList.take (m*sz))[j]?:=by
    intro j hj
    rw [W8 (by simp only [QB,Qy,hnl,ho1]; omega)]
    simp
   obtain ⟨ω',R'⟩:=zDb (T:=e) R hre hrl hG hrne hX (by
    intro j c hj
    rcases zBI hin hcl hvl hj with ⟨q1,q2⟩ | ⟨q1,q2,q3⟩ | ⟨q1,q2,q3⟩
    ·rw [hget j (by omega),List.getElem?_append_left (by omega)]
     exact ho3 j c q1 q2
    ·rw [hget j q2,List.getElem?_append_right (by omega),ho1,hng _ (by omega)]
     exact hV _ c q3
    ·omega)
   exact ⟨_,ω',μ,rfl,R',fun _ _=>rfl⟩
 ·have hlt:i<n:=by omega
  obtain ⟨rfl,hcs,hne,arr0,T0,hb0,hsz0,hcz,h0⟩:=hC (by omega)
  have hncz:=WG sz hc0
  have hpl:((arr0.toList.drop (i*sz)).take ((n-i)*sz)).length=(n-i)*sz:=by simp; omega
  have hpg:∀ j,j<(n-i)*sz→((arr0.toList.drop (i*sz)).take ((n-i)*sz))[j]?=arr0[i*sz+j]?:=fun j hj=>by rw [Wn,if_pos hj,Wp]; simp
  have hp1:=one0 h0 (i*sz) ((n-i)*sz) (by omega)
  have hpsrc:∀ {w':World},w'.heap[μ 0]?=w.heap[μ 0]?→∀ (j:Nat) (u:Value),((arr0.toList.drop (i*sz)).take ((n-i)*sz))[j]?=some u→w'.cell? ((⟨μ 0,i*sz,none⟩:Addr).add j)=some u:=by
   intro w' hw' j u hu
   have hj:j<(n-i)*sz:=by have:=(Wh.1 hu).1; rw [hpl] at this; exact this
   rw [zck,cell_of_row _ _ _ _ _ _ (hw'.trans hb0)]
   rw [hpg j hj] at hu; exact hu
  have hinf:(P.info? e).map (·.size)=some sz:=by rw [hi0]; simp [hisz]
  by_cases hroom:n+m≤c
  ·
   have hmc:=WG sz hroom
   have hfit1:(i+m)*sz+((arr0.toList.drop (i*sz)).take ((n-i)*sz)).length≤arr0.size:=by rw [hpl]; omega
   obtain ⟨X1,hX1⟩:∃ X1,X1=(arr0.toList.take ((i+m)*sz)++(arr0.toList.drop (i*sz)).take ((n-i)*sz)++arr0.toList.drop ((i+m)*sz+((arr0.toList.drop (i*sz)).take ((n-i)*sz)).length)).toArray:=⟨_,rfl⟩
   have hX1s:X1.size=arr0.size:=by
    rw [hX1]; simp only [Qy,Wm,XD,hpl]; simp; omega
   have hX1g:∀ j,X1[j]?=if (i+m)*sz≤j∧j<(i+m)*sz+(n-i)*sz then ((arr0.toList.drop (i*sz)).take ((n-i)*sz))[j-(i+m)*sz]? else arr0.toList[j]?:=by
    intro j
    rw [hX1,W5,zdo (by simpa using hfit1),hpl]
   have hb1:(w.drew.setRow (μ 0) X1).heap[μ 0]?=some (.cells X1 T0 (0,0)):=setRow_heap _ _ _ _ _ _ hb0
   have hfit2:i*sz+(arr1.toList.take (m*sz)).length≤X1.size:=by rw [hnl]; omega
   obtain ⟨X2,hX2⟩:∃ X2,X2=(X1.toList.take (i*sz)++arr1.toList.take (m*sz)++X1.toList.drop (i*sz+(arr1.toList.take (m*sz)).length)).toArray:=⟨_,rfl⟩
   have hX2s:X2.size=arr0.size:=by
    rw [hX2]; simp only [Qy,Wm,XD,hnl]; simp; omega
   have hX2g:∀ j,X2[j]?=if i*sz≤j∧j<i*sz+m*sz then (arr1.toList.take (m*sz))[j-i*sz]? else X1[j]?:=by
    intro j
    rw [hX2,W5,zdo (by simpa using hfit2),hnl]; simp
   refine (W.s (μ 0) n c i (μ 1) m vc w hlt hm hroom hsm hne _ _ _ _ (fun lb cb=>W.ovl w _ _ _ _ _ _ _ _ _ _ _ hne hv1 hb0 (by omega)) (fun ty dc sc=>zr5 w.drew W.ty hinf (μ 0) ((i+m)*sz) (n+m-(i+m)) dc ⟨μ 0,i*sz,none⟩ (n+m-i) sc arr0 T0 _ hb0 (by rw [hpl,show XE (n+m-i) (n+m-(i+m))=n-i from by show min _ _=_; omega]) (hpsrc rfl) hfit1 hp1)
    (fun ty dc=>by
     rw [← hX1]
     exact zr5 (w.drew.setRow (μ 0) X1) W.ty hinf (μ 0) (i*sz) (n+m-i) dc ⟨μ 1,0,none⟩ m vc X1 T0 _ hb1 (by rw [hnl,show XE m (n+m-i)=m from by show min _ _=_; omega]) (hsrc (setRow_other _ _ _ _ hne)) hfit2 hn1)).mono ?_
   rintro e' w' ⟨rfl,rfl⟩
   rw [← hX2,setRow_setRow]
   obtain ⟨FD,RD⟩:=R.drew
   obtain ⟨ω',μ',R',h'⟩:=zDI RD hcs hb0 hX2s hre hrl pos hroom hrne (by rw [hX2s]; exact hcz) (zxM hin hcl hvl (fun j c hj=>by obtain ⟨u,g1,g2,g3⟩:=h0 j c hj; exact ⟨u,g1,g2,g3.mono FD.st⟩) (fun j c hj=>by obtain ⟨u,g1,g2,g3⟩:=hV j c hj; exact ⟨u,g1,g2,g3.mono FD.st⟩)
    (fun j hj=>by rw [hX2g,if_neg (by omega),hX1g,if_neg (by omega)]; simp) (fun j h1 h2=>by rw [hX2g,if_pos ⟨h1,h2⟩,hng _ (by omega)])
    (fun j h1 h2=>by rw [hX2g,if_neg (by omega),hX1g,if_pos ⟨by omega,by omega⟩,hpg _ (by omega)]; congr 1; omega))
   exact ⟨_,ω',μ',rfl,R',h'⟩
  ·
   have hnn:i+(n+m-i)=n+m:=by omega
   have hnz:((n:Int)+(m:Int)-(i:Int))=((n+m-i:Nat):Int):=by omega
   have hG:=grownCap_ge w (n+m) c e
   have holdl:(arr0.toList.take (i*sz)).length=i*sz:=by simp; omega
   obtain ⟨XN,hXN⟩:∃ XN,XN=((arr0.toList.take (i*sz)).toArray++Builtin.zeroCells z.cells (n+m-i)++Builtin.zeroCells z.cells (grownCap w (n+m) c e-(n+m))):=⟨_,rfl⟩
   have hXs:XN.size=grownCap w (n+m) c e*sz:=by
    rw [hXN]
    simp only [QB,Qy,holdl,size_zeroCells,hzc]
    rw [← WF,← WF]
    congr 1; omega
   have hGz:=WG sz hG
   have hXg:∀ j,j<i*sz→XN[j]?=arr0[j]?:=by
    intro j hj
    rw [hXN,W8 (by simp only [QB,Qy,holdl]; omega),W8 (by simp only [Qy,holdl]; omega)]
    rw [W5,Wn,if_pos hj]; simp
   have hl0:μ 0<w.heap.size:=by have:=(Qz.1 hb0).1; exact this
   have hl1:μ 1<w.heap.size:=by have:=(Qz.1 hv1).1; exact this
   have hbN:(w.drew.alloc (.cells XN e)).heap[w.heap.size]?=some (.cells XN e (0,0)):=heap_alloc_new w.drew _
   have hfit1:i*sz+(arr1.toList.take (m*sz)).length≤XN.size:=by rw [hnl]; omega
   obtain ⟨X1,hX1⟩:∃ X1,X1=(XN.toList.take (i*sz)++arr1.toList.take (m*sz)++XN.toList.drop (i*sz+(arr1.toList.take (m*sz)).length)).toArray:=⟨_,rfl⟩
   have hX1s:X1.size=XN.size:=by
    rw [hX1]; simp only [Qy,Wm,XD,hnl]; simp; omega
   have hX1g:∀ j,X1[j]?=if i*sz≤j∧j<i*sz+m*sz then (arr1.toList.take (m*sz))[j-i*sz]? else XN[j]?:=by
    intro j
    rw [hX1,W5,zdo (by simpa using hfit1),hnl]; simp
   have eA:(w.drew.alloc (.cells XN e)).setRow w.heap.size X1=w.drew.alloc (.cells X1 e):=zvL w.drew XN X1 e
   have hb1:((w.drew.alloc (.cells X1 e)).drew).heap[w.heap.size]?=some (.cells X1 e (0,0)):=heap_alloc_new w.drew _
   have hfit2:(i+m)*sz+((arr0.toList.drop (i*sz)).take ((n-i)*sz)).length≤X1.size:=by rw [hpl]; omega
   obtain ⟨X2,hX2⟩:∃ X2,X2=(X1.toList.take ((i+m)*sz)++(arr0.toList.drop (i*sz)).take ((n-i)*sz)++X1.toList.drop ((i+m)*sz+((arr0.toList.drop (i*sz)).take ((n-i)*sz)).length)).toArray:=⟨_,rfl⟩
   have hX2s:X2.size=XN.size:=by
    rw [hX2]; simp only [Qy,Wm,XD,hpl]; simp; omega
   have hX2g:∀ j,X2[j]?=if (i+m)*sz≤j∧j<(i+m)*sz+(n-i)*sz then ((arr0.toList.drop (i*sz)).take ((n-i)*sz))[j-(i+m)*sz]? else X1[j]?:=by
    intro j
    rw [hX2,W5,zdo (by simpa using hfit2),hpl]; simp
   refine (W.g (μ 0) n c i (μ 1) m vc w.heap.size (grownCap w (n+m) c e) w hlt hm hc0 (by omega) hsm hG _ _ (w.drew.alloc (.cells XN e)) (w.drew.alloc (.cells X1 e)) _ (fun ty=>by
     have:=zqd (P:=P) (ty:=ty) (w:=w) (A:=some ⟨μ 0,0,none⟩) (sLen:=i) (sCap:=c) (m:=n+m-i) (k':=.i64) W.ty hI hi0 hz (by omega) (olds:=arr0.toList.take (i*sz)) (by rw [hisz]; exact holdl) (fun _=>⟨_,rfl,fun j u hu=>by
      rw [Wn] at hu
      split at hu
      ·rw [zck,WB,cell_of_row _ _ _ _ _ _ hb0]; simpa using hu
      ·cases hu⟩) (by omega) (by rw [hnn,hby]; exact hbig) (by omega) (by omega)
     rw [hnn,← hXN] at this
     rw [hnz]; exact this)
    (fun ty dc=>by
     have:=zr5 (P:=P) (ty:=ty) (sT:=T) (w.drew.alloc (.cells XN e)) W.ty hinf w.heap.size (i*sz) (n+m-i) dc ⟨μ 1,0,none⟩ m vc XN e _ hbN (by rw [hnl,show XE m (n+m-i)=m from by show min _ _=_; omega]) (hsrc (heap_alloc_old w.drew _ hl1)) hfit1 hn1
     rw [← hX1,eA] at this
     exact this)
    (fun ty dc sc=>zr5 (w.drew.alloc (.cells X1 e)).drew W.ty hinf w.heap.size ((i+m)*sz) (n+m-(i+m)) dc ⟨μ 0,i*sz,none⟩ (n-i) sc X1 e _ hb1 (by rw [hpl,show XE (n-i) (n+m-(i+m))=n-i from by show min _ _=_; omega]) (hpsrc (heap_alloc_old w.drew _ hl0)) hfit2 hp1)).mono ?_
   rintro e' w' ⟨rfl,rfl⟩
   rw [← hX2,zC7,show (w.drew.alloc (.cells X1 e)).setRow w.heap.size X2=w.drew.alloc (.cells X2 e) from zvL w.drew X1 X2 e]
   obtain ⟨ω',R'⟩:=zDb (T:=e) R hre hrl hG hrne (by rw [hX2s,hXs]; exact Nat.le_refl _) (zxM (X:=X2) hin hcl hvl h0 hV
    (fun j hj=>by rw [hX2g,if_neg (by omega),hX1g,if_neg (by omega),hXg j hj])
    (fun j h1 h2=>by rw [hX2g,if_neg (by omega),hX1g,if_pos ⟨h1,h2⟩,hng _ (by omega)])
    (fun j h1 h2=>by rw [hX2g,if_pos ⟨by omega,by omega⟩,hpg _ (by omega)]; congr 1; omega))
   obtain ⟨FD,RD⟩:=R'.drew
   exact ⟨_,ω',μ,rfl,RD,fun _ _=>rfl⟩
end
section
open Go.Shelf Go.RowKit Go.Lib
set_option maxHeartbeats 4000000 in
set_option maxRecDepth 100000 in
theorem zHB(A:Option Addr)(n c vb m vc:Nat)(w w1:World)(r:Value)(hm:0<m)(hA:A=none→n=0∧c=0)(hnc:n≤c)(hnm:n+m≤140737488355328)
  (happ:∀ ty,(Builtin.append_ #[29,29] ty #[.slice A n c,.slice (some ⟨vb,0,none⟩) m vc]).run Try.prog w=.ok r w1) :
  Calls Try.prog 60 #[.slice A n c,.int .i64 n,.slice (some ⟨vb,0,none⟩) m vc] w fun e w'=>e=.returned r∧w'=w1:=by
 have hz1:¬ ((m:Int)=0):=by omega
 go_enter Try.func60,Try.ntmps60
 cases A with
 | none=>
  obtain ⟨h0,h1⟩:=hA rfl
  subst h0 h1
  go_wp2_with (at_builtin; refine Lib.wpList_append_run _ rfl _ _ _ _ rfl _ _ rfl rfl _ _ (happ _) ?_)
  go_ret
  exact ⟨rfl,rfl⟩
 | some a=>
  obtain ⟨ab,ao,asp⟩:=a
  go_wp2_with (at_builtin; refine Lib.wpList_append_run _ rfl _ _ _ _ rfl _ _ rfl rfl _ _ (happ _) ?_)
  all_goals (go_ret; exact ⟨rfl,rfl⟩)
set_option maxHeartbeats 4000000 in
set_option maxRecDepth 100000 in
theorem zFV(b n c i vb m vc:Nat)(w:World)(hi:i<n)(hm:0<m)(hroom:n+m≤c)(hnm:n+m≤140737488355328)(hvb:vb≠b)(r1 r2:Value)(w1 w2:World)
  (hov:∀ lb cb,(callFunc 80 #[.slice (some ⟨vb,0,none⟩) m vc,.slice (some ⟨b,(i+m)*5,none⟩) lb cb]).run Try.prog w=.ok (.value (.bool false)) w)
  (h1:∀ ty dc sc,(Builtin.copy_ #[29,29] ty #[.slice (some ⟨b,(i+m)*5,none⟩) (n+m-(i+m)) dc,.slice (some ⟨b,i*5,none⟩) (n+m-i) sc]).run Try.prog w.drew=.ok r1 w1)
  (h2:∀ ty dc,(Builtin.copy_ #[29,29] ty #[.slice (some ⟨b,i*5,none⟩) (n+m-i) dc,.slice (some ⟨vb,0,none⟩) m vc]).run Try.prog w1=.ok r2 w2) :
  Calls Try.prog 60 #[.slice (some ⟨b,0,none⟩) n c,.int .i64 i,.slice (some ⟨vb,0,none⟩) m vc] w fun e w'=>e=.returned (.slice (some ⟨b,0,none⟩) (n+m) c)∧w'=w2:=by
 have hz1:¬ ((m:Int)=0):=by omega
 have hz2:¬ ((i:Int)=(n:Int)):=by omega
 have hw1:IntKind.i64.wrap ((i:Int)+(m:Int))=(i:Int)+(m:Int):=by rw [XF]; omega
 have hb1:(0:Int)≤(i:Int)+(m:Int):=by omega
 have hin:i≤n:=by omega
 have htn:((i:Int)+(m:Int)).toNat=i+m:=by omega
 have hb2:¬ (c=i+m):=by omega
 have hb3:(i:Int)≤(n:Int)+(m:Int):=by omega
 have hb4:¬ (c=i):=by omega
 have mixed:Try.prog.follows .mixedOrders=true:=by kernel_rfl
 go_enter Try.func60,Try.ntmps60
 go_wp2_with (simp only [hov])
 go_region_law_o (refine step_copy_runI rfl _ _ 29 29 rfl _ _ (by simp [Act.eval,Act.put]) (by simp [Act.eval,Act.put]) (h1 _ _ _) ?_)
 go_wp2_with (at_builtin; refine wpList_copy_runI _ rfl _ _ 29 29 rfl _ _ rfl rfl (h2 _ _) ?_)
 go_ret
 exact ⟨rfl,rfl⟩
set_option maxHeartbeats 4000000 in
set_option maxRecDepth 100000 in
theorem zGE(b n c i vb m vc N G:Nat)(w:World)(hi:i<n)(hm:0<m)(hnc:n≤c)(hroom:c<n+m)(hnm:n+m≤140737488355328)(hG:n+m≤G)(r1 r2:Value)(w1 w2 w3:World)
  (h0:∀ ty,(Builtin.append_ #[29,3] ty #[.slice (some ⟨b,0,none⟩) i c,.int .i64 ((n:Int)+(m:Int)-(i:Int))]).run Try.prog w=.ok (.slice (some ⟨N,0,none⟩) (n+m) G) w1)
  (h1:∀ ty dc,(Builtin.copy_ #[29,29] ty #[.slice (some ⟨N,i*5,none⟩) (n+m-i) dc,.slice (some ⟨vb,0,none⟩) m vc]).run Try.prog w1=.ok r1 w2)
  (h2:∀ ty dc sc,(Builtin.copy_ #[29,29] ty #[.slice (some ⟨N,(i+m)*5,none⟩) (n+m-(i+m)) dc,.slice (some ⟨b,i*5,none⟩) (n-i) sc]).run Try.prog w2.drew=.ok r2 w3) :
  Calls Try.prog 60 #[.slice (some ⟨b,0,none⟩) n c,.int .i64 i,.slice (some ⟨vb,0,none⟩) m vc] w fun e w'=>e=.returned (.slice (some ⟨N,0,none⟩) (n+m) G)∧w'=w3:=by
 have hz1:¬ ((m:Int)=0):=by omega
 have hz2:¬ ((i:Int)=(n:Int)):=by omega
 have hz3:(c:Int)<(n:Int)+(m:Int):=by omega
 have hw1:IntKind.i64.wrap ((i:Int)+(m:Int))=(i:Int)+(m:Int):=by rw [XF]; omega
 have hb1:(0:Int)≤(i:Int)+(m:Int):=by omega
 have hin:i≤n:=by omega
 have htn:((i:Int)+(m:Int)).toNat=i+m:=by omega
 have hb3:(i:Int)≤(n:Int):=by omega
 have hGi:¬ (G=i):=by omega
 have hGim:¬ (G=i+m):=by omega
 have hci:¬ (c=i):=by omega
 have mixed:Try.prog.follows .mixedOrders=true:=by kernel_rfl
 go_enter Try.func60,Try.ntmps60
 go_wp2_with (first
  | (at_builtin; refine Lib.wpList_append_run _ rfl _ _ _ _ rfl _ _ rfl rfl _ _ (h0 _) ?_)
  | (at_builtin; refine wpList_copy_runI _ rfl _ _ 29 29 rfl _ _ rfl rfl (h1 _ _) ?_))
 go_region_law_o (refine step_copy_runI rfl _ _ 29 29 rfl (.slice (some ⟨N,(i+m)*5,none⟩) (n+m-(i+m)) (G-(i+m))) (.slice (some ⟨b,i*5,none⟩) (n-i) (c-i)) (by simp [Act.eval,Act.put]) (by simp [Act.eval,Act.put]) (h2 3 (G-(i+m)) (c-i)) ?_)
 go_wp2
 go_ret
 exact ⟨rfl,rfl⟩
set_option maxRecDepth 100000 in
theorem zI9:InsW Try.prog 60 29 3 55 80 5 24 where
 ty:=rfl
 it:=⟨_,rfl⟩
 inf:=⟨_,_,rfl,rfl,rfl,rfl,rfl⟩
 pos:=by decide
 ovl:=fun w vb b o2 m vc lb cb A1 A2 T1 T2 hne h1 h2 h0=>by
  rw [run_callFunc_extern (P:=Try.prog) (f:=80) Try.func80 (by kernel_rfl) (by kernel_rfl) (by kernel_rfl) (e:=Extern.SlicesOverlaps.overlaps #[29,29] #[4]) (by kernel_rfl),
   Lib.run_overlaps_apart w 29 4 55 rfl 5 (fun w=>rfl) ⟨vb,0,none⟩ ⟨b,o2,none⟩ m vc lb cb hne T1 T2 A1.size A2.size (by simp [World.shape?,h1]) (by simp [World.shape?,h2]) h0 (by simp [World.frozen?,h1]) (by simp [World.frozen?,h1])]
  rfl
 e:=zHB
 s:=zFV
 g:=zGE
end
end Go.Proofs.Ytbimgceighecgaa
