/- Part 4 of the proof of JournalReads: an abstract machine over plain values, its soundness, and the functions of the program on plain values. -/
import Derived.MapKept
import Derived.Carry
import Derived.Test.YteopmmegeagklaaDoorMJournalReads3
namespace Go.Proofs.YteopmmegeagklaaDoor
section
set_option linter.unusedVariables false
set_option linter.unusedSimpArgs false
variable {ren:Rn} {we:World} {ωe:Nat→Ow} {U:Nat→Nat→Prop} {O:Nat→Prop} {σ:St} {a:Act} {w:World} {ω:Nat→Ow} {μ:Nat→Nat} {P:Program} {nb:Nat}
def zAk (P:Program) (em:Bool) (dd:Nat) (t:TypeId) (n:Nat):Prop :=
 ∀ (w:World) (us:List Value) (x:Value),us.length=n→zuF P t us x→(Instr.checkKey em dd t x).run P w=.ok () w
theorem zqv {em:Bool} {dd d:Nat} (IH:∀ t n,zc3 P d t=some n→zAk P em dd t n) (xs:List Value) (w:World):∀ (fs:List Field) (off n:Nat),zdN P (zc3 P d) fs off=some n→xs.length=n →
  ∀ f ∈ fs,f.name≠"_"∧∃ x,(part f.type xs.toArray f.offset).run P w=.ok x w∧(Instr.checkKey em dd f.type x).run P w=.ok () w
 | [],off,n,h,hx=>by simp
 | f::fs,off,n,h,hx=>by
  simp only [zdN,Option.bind_eq_bind,Option.bind_eq_some_iff] at h
  obtain ⟨s,hs,h⟩:=h
  split at h
  ·rename_i hc
   obtain ⟨hname,hoff,hsz⟩:=hc
   have hmono:∀ (fs:List Field) (o n:Nat),zdN P (zc3 P d) fs o=some n→o≤n:=by
    intro fs
    induction fs with
    | nil=>intro o n h; cases h; exact Nat.le_refl _
    | cons g gs ih =>
     intro o n h
     simp only [zdN,Option.bind_eq_bind,Option.bind_eq_some_iff] at h
     obtain ⟨s',_,h⟩:=h
     split at h
     ·have:=ih _ _ h; omega
     ·cases h
   have hle:=hmono _ _ _ h
   obtain ⟨b,hb,hb1⟩:=zl4 hs
   obtain ⟨x,px,ox⟩:=zo6 hb hsz hb1 (xs:=xs) (off:=off) (by omega) w
   intro g hg
   rcases List.mem_cons.1 hg with rfl | hg
   ·exact ⟨hname,x,by rw [hoff]; exact px,IH _ _ hs w _ x (by simp; omega) ox⟩
   ·exact zqv IH xs w fs (off+s) n h hx g hg
  ·cases h
theorem zqI (em:Bool) (m:Nat):∀ (d:Nat) (t:TypeId) (n:Nat),zc3 P d t=some n→zAk P em (m+d) t n
 | 0,t,n,h=>by cases h
 | d+1,t,n,h=>by
  intro w us x hu ox
  unfold zc3 at h
  split at h
  ·rename_i k hd
   show (Instr.checkKey em (m+d+1) t x).run P w=_
   simp [Instr.checkKey,run_underlying hd,Result.andThen_ok]
  ·rename_i len e hd
   simp only [Option.bind_eq_bind,Option.bind_eq_some_iff] at h
   obtain ⟨s,hs,h⟩:=h
   split at h
   ·rename_i hsz
    cases h
    rcases ox with ⟨_,rfl⟩ | ⟨g,_⟩
    ·obtain ⟨i,hi,hi'⟩:=zeT hsz
     obtain ⟨b,hb,hb1⟩:=zl4 hs
     have IH:=zqI em m d e s hs
     show (Instr.checkKey em (m+d+1) t _).run P w=_
     rw [Instr.checkKey]
     simp only [Sem.run_bind,run_underlying hd,Result.andThen_ok]
     simp only [Std.Legacy.Range.forIn_eq_forIn_range',Std.Legacy.Range.size,Nat.sub_zero,Nat.add_one_sub_one,Nat.div_one]
     have each:∀ j ∈ List.range' 0 len,∃ x,(part e us.toArray (j * s)).run P w=.ok x w∧(Instr.checkKey em (m+d) e x).run P w=.ok () w:=by
      intro j hj
      have hj:j < len:=by simpa using hj
      have hm:j * s+s≤len * s:=by rw [← Nat.succ_mul]; exact Nat.mul_le_mul_right s hj
      obtain ⟨x,px,ox⟩:=zo6 hb hsz hb1 (xs:=us) (off:=j * s) (by omega) w
      exact ⟨x,px,IH w _ x (by simp; omega) ox⟩
     generalize List.range' 0 len=is at each
     induction is with
     | nil=>simp
     | cons j is ih =>
      obtain ⟨x,p1,p2⟩:=each j (by simp)
      simp only [List.forIn_cons,Sem.run_bind,zY hsz,Result.andThen_ok,p1,p2,Sem.run_pure]
      exact ih (fun y hy=>each y (by simp [hy]))
    ·simp [zaw,hd] at g
   ·cases h
  ·rename_i fs hd
   split at h
   ·cases h
   ·rename_i hst
    rcases ox with ⟨_,rfl⟩ | ⟨g,_⟩
    ·show (Instr.checkKey em (m+d+1) t _).run P w=_
     rw [Instr.checkKey]
     simp only [Sem.run_bind,run_underlying hd,Result.andThen_ok]
     rw [← Array.forIn_toList]
     have each:=zqv (fun t n h=>zqI em m d t n h) us w fs.toList 0 n h hu
     clear h hd hst
     generalize fs.toList=L at each
     induction L with
     | nil=>simp
     | cons f L ih =>
      obtain ⟨hn,x,p1,p2⟩:=each f (by simp)
      simp only [List.forIn_cons,Sem.run_bind,hn,ne_eq,not_false_eq_true,if_true,Result.andThen_ok,p1,p2,Sem.run_pure]
      exact ih (fun y hy=>each y (by simp [hy]))
    ·simp [zaw,hd] at g
  ·cases h
theorem zAU:∀ {us vs:List Value},eqV us vs=some true→us=vs∧∀ u ∈ us,∃ k n,u=.int k n
 | [],[],_=>⟨rfl,by simp⟩
 | [],_::_,h=>by simp [eqV] at h
 | u::us,[],h=>by simp [eqV] at h
 | u::us,v::vs,h=>by
  unfold eqV at h
  split at h
  ·simp_all
  ·rename_i e1 e2
   cases e1; cases e2
   split at h
   ·rename_i hk
    simp only [Option.map_eq_some_iff,Bool.and_eq_true,beq_iff_eq] at h
    obtain ⟨r,hr,e,rfl⟩:=h
    obtain ⟨e2,hi⟩:=zAU hr
    subst hk; subst e; subst e2
    exact ⟨rfl,fun u hu=>by rcases List.mem_cons.1 hu with rfl | hu; exact ⟨_,_,rfl⟩; exact hi u hu⟩
   ·cases h
  ·cases h
theorem zzL {us:List Value} (h:∀ u ∈ us,∃ k n,u=.int k n) (n:Nat):Instr.sameBits (n+1) (.agg us.toArray) (.agg us.toArray)=true:=by
 simp only [Instr.sameBits,BEq.rfl,Bool.true_and,List.all_eq_true]
 intro ⟨x,y⟩ hxy
 have e:x=y:=by
  obtain ⟨i,hi,e⟩:=List.getElem_of_mem hxy
  simp at e
  rw [← e.1,← e.2]
 subst e
 obtain ⟨k,m,rfl⟩:=h x (List.of_mem_zip hxy).1
 cases n <;> simp [Instr.sameBits]
theorem zAw {t:TypeId} {k:IntKind} (hd:P.underlying t=some (.int k)) {x:Value} (em:Bool) (n:Nat):(Instr.checkKey em (n+1) t x).run P w=.ok () w:=by
 simp [Instr.checkKey,run_underlying hd,Result.andThen_ok]
theorem zBk {t:TypeId} (hd:P.underlying t=some .string) {x:Value} (em:Bool) (n:Nat):(Instr.checkKey em (n+1) t x).run P w=.ok () w:=by
 simp [Instr.checkKey,run_underlying hd,Result.andThen_ok]
theorem zqH {Wr:Nat→Nat→Prop} {t:TypeId} {kd:Nat} (hk:zq6 P t=some kd) {k:V} {x:Value} (ho:zjf kd k=true) (h:RepP ren w Wr k x) (em:Bool) (w':World):(Instr.checkKey em 10000 t x).run P w'=.ok () w':=by
 unfold zq6 at hk
 simp only [Option.bind_eq_bind,Option.bind_eq_some_iff] at hk
 obtain ⟨d,hd,hk⟩:=hk
 split at hk
 ·exact zAw hd em 9999
 ·exact zBk hd em 9999
 ·rename_i fs
  simp only [Option.bind_eq_some_iff,Option.some.injEq] at hk
  obtain ⟨n,hn,rfl⟩:=hk
  cases k <;> simp [zjf] at ho
  obtain ⟨us,rfl,hc⟩:=CellsP.of_agg h
  exact zqI em 9980 20 t n hn w' us _ (by rw [← hc.1]; exact ho) (.inl ⟨by simp [zaw,hd],rfl⟩)
 ·rename_i n' e'
  simp only [Option.bind_eq_some_iff,Option.some.injEq] at hk
  obtain ⟨n,hn,rfl⟩:=hk
  cases k <;> simp [zjf] at ho
  obtain ⟨us,rfl,hc⟩:=CellsP.of_agg h
  exact zqI em 9980 20 t n hn w' us _ (by rw [← hc.1]; exact ho) (.inl ⟨by simp [zaw,hd],rfl⟩)
 ·cases hk
theorem zEC {a b:ByteArray} (h:(a == b)=true):a=b:=by
 have h:(a.data == b.data)=true:=h
 cases a; cases b
 simpa using h
theorem zC7 (a:ByteArray):(a == a)=true:=by
 show (a.data == a.data)=true
 simp
def zuh (P:Program) (t:TypeId) (d:TypeDesc) (w:World) (x y:Value) (r:Bool):Prop :=
 ((∃ b,zaw P t=some b∧b=true)∧(∀ y,Instr.sameNow d x y=none)∧(Op.equal t x y).run P w=.ok r w)∨Instr.sameNow d x y=some r
theorem zo0 {Wr:Nat→Nat→Prop} {t:TypeId} {kd:Nat} (hk:zq6 P t=some kd) {d:TypeDesc} (hd:P.underlying t=some d) {k k':V} {x y:Value} (ho:zjf kd k=true) (h:RepP ren w Wr k x) (h':RepP ren w Wr k' y) {r:Bool} (he:zkz k k'=some r) (w':World) :
  zuh P t d w' x y r∧(r=true→Instr.sameBits 10000 y x=true):=by
 unfold zq6 at hk
 simp only [Option.bind_eq_bind,Option.bind_eq_some_iff] at hk
 obtain ⟨d',hd',hk⟩:=hk
 rw [hd] at hd'; cases hd'
 have agg:∀ n,zc3 P 20 t=some n→kd=n+2→zaw P t=some true→(∀ x y,Instr.sameNow d x y=none)→zuh P t d w' x y r∧(r=true→Instr.sameBits 10000 y x=true):=by
  intro n hn e hb hs
  subst e
  cases k <;> simp [zjf] at ho
  rename_i cs
  cases k' <;> simp [zkz] at he
  rename_i ds
  obtain ⟨us,rfl,hc⟩:=CellsP.of_agg h
  obtain ⟨vs,rfl,hc'⟩:=CellsP.of_agg h'
  have hq:=ztR he.2 hc hc'
  refine ⟨.inl ⟨⟨_,hb,rfl⟩,fun y=>hs _ y,?_⟩,fun hr=>?_⟩
  ·exact zwL 9980 20 t n hn w' us vs _ _ r (by rw [← hc.1]; exact ho) (by rw [← hc'.1,← he.1]; exact ho) (.inl ⟨hb,rfl⟩) (.inl ⟨hb,rfl⟩) hq
  ·subst hr
   obtain ⟨e,hi⟩:=zAU hq
   subst e
   exact zzL hi 9999
 split at hk
 ·cases hk
  cases k <;> simp [zjf] at ho
  rename_i v; cases v <;> simp at ho
  cases k' <;> simp [zkz] at he
  rename_i v'; cases v' <;> simp at he
  cases h; cases h'
  obtain ⟨e,rfl⟩:=he
  refine ⟨.inr (by simp [Instr.sameNow,e]),fun hr=>?_⟩
  simp at hr
  simp [Instr.sameBits,e,hr]
 ·cases hk
  cases k <;> simp [zjf] at ho
  rename_i v; cases v <;> simp at ho
  cases k' <;> simp [zkz] at he
  rename_i v'; cases v' <;> simp at he
  cases h; cases h'
  subst he
  refine ⟨.inr (by simp [Instr.sameNow]),fun hr=>?_⟩
  simp only [Instr.sameBits]
  rw [zEC hr]
  exact zC7 _
 ·simp only [Option.bind_eq_some_iff,Option.some.injEq] at hk
  obtain ⟨n,hn,rfl⟩:=hk
  exact agg n hn rfl (by simp [zaw,hd]) (fun x y=>by cases x <;> cases y <;> rfl)
 ·simp only [Option.bind_eq_some_iff,Option.some.injEq] at hk
  obtain ⟨n,hn,rfl⟩:=hk
  exact agg n hn rfl (by simp [zaw,hd]) (fun x y=>by cases x <;> cases y <;> rfl)
 ·cases hk
theorem zw2 {key:V}:∀ {es:List (V × V)},zsg key es=some none→∀ (j:Nat) (k v:V),es[j]?=some (k,v)→zkz key k=some false
 | [],_,j,k,v,hj=>by simp at hj
 | (k0,v0)::es,h,j,k,v,hj=>by
  unfold zsg at h
  split at h
  ·cases h
  ·rename_i he
   cases j with
   | zero=>simp at hj; rw [← hj.1]; exact he
   | succ j=>exact zw2 h j k v (by simpa using hj)
  ·cases h
theorem zxD {key r:V}:∀ {es:List (V × V)},zsg key es=some (some r)→∃ (j:Nat) (k:V),es[j]?=some (k,r)∧zkz key k=some true∧∀ (i:Nat) (k' v':V),i < j→es[i]?=some (k',v')→zkz key k'=some false
 | [],h=>by cases h
 | (k0,v0)::es,h=>by
  unfold zsg at h
  split at h
  ·rename_i he; cases h; exact ⟨0,k0,rfl,he,fun i _ _ hi=>by omega⟩
  ·rename_i he
   obtain ⟨j,k,h1,h2,h3⟩:=zxD h
   refine ⟨j+1,k,by simpa using h1,h2,fun i k' v' hi hk'=>?_⟩
   cases i with
   | zero=>simp at hk'; rw [← hk'.1]; exact he
   | succ i=>exact h3 i k' v' (by omega) (by simpa using hk')
  ·cases h
theorem zzb {key val:V}:∀ {es es':List (V × V)},zA3 key val es=some es' →
  ((∀ (j:Nat) (k v:V),es[j]?=some (k,v)→zkz key k=some false)∧es'=es++[(key,val)]) ∨
  (∃ (j:Nat) (k r:V),es[j]?=some (k,r)∧zkz key k=some true∧(∀ (i:Nat) (k' v':V),i < j→es[i]?=some (k',v')→zkz key k'=some false)∧es'=es.set j (key,val))
 | [],es',h=>by cases h; exact .inl ⟨by simp,rfl⟩
 | (k0,v0)::es,es',h=>by
  unfold zA3 at h
  split at h
  ·rename_i he; cases h; exact .inr ⟨0,k0,v0,rfl,he,fun i _ _ hi=>by omega,rfl⟩
  ·rename_i he
   simp only [Option.map_eq_some_iff] at h
   obtain ⟨es1,h1,rfl⟩:=h
   rcases zzb h1 with ⟨g1,g2⟩ | ⟨j,k,r,g1,g2,g3,g4⟩
   ·refine .inl ⟨fun j k v hj=>?_,by rw [g2]; rfl⟩
    cases j with
    | zero=>simp at hj; rw [← hj.1]; exact he
    | succ j=>exact g1 j k v (by simpa using hj)
   ·refine .inr ⟨j+1,k,r,by simpa using g1,g2,fun i k' v' hi hk'=>?_,by rw [g4]; rfl⟩
    cases i with
    | zero=>simp at hk'; rw [← hk'.1]; exact he
    | succ i=>exact g3 i k' v' (by omega) (by simpa using hk')
  ·cases h
theorem zt3 {d:TypeDesc} {x:Value}:∀ (L:List MapEntry) (i:Nat),(∀ e ∈ L,Instr.sameNow d x e.key=some false)→Instr.findNow d x L i=some none
 | [],i,_=>rfl
 | e::L,i,h=>by simp only [Instr.findNow,h e (by simp)]; exact zt3 L (i+1) (fun e he=>h e (by simp [he]))
theorem zuA {d:TypeDesc} {x:Value}:∀ (L:List MapEntry) (i j:Nat) (e:MapEntry),L[j]?=some e→Instr.sameNow d x e.key=some true→(∀ i' e',i' < j→L[i']?=some e'→Instr.sameNow d x e'.key=some false)→Instr.findNow d x L i=some (some (i+j,e.val))
 | [],i,j,e,h,_,_=>by simp at h
 | e0::L,i,0,e,h,h1,_=>by simp at h; subst h; simp [Instr.findNow,h1]
 | e0::L,i,j+1,e,h,h1,h2=>by
  have:=zuA L (i+1) j e (by simpa using h) h1 (fun i' e' hi he=>h2 (i'+1) e' (by omega) (by simpa using he))
  simp only [Instr.findNow,h2 0 e0 (by omega) rfl,this]
  congr 3; omega
theorem zqb {t:TypeId} {x:Value} {w:World}:∀ (L:List MapEntry) (i:Nat),(∀ e ∈ L,(Op.equal t x e.key).run P w=.ok false w)→(Instr.findAsking t x L i).run P w=.ok none w
 | [],i,_=>by simp [Instr.findAsking]
 | e::L,i,h=>by simp [Instr.findAsking,h e (by simp),zqb L (i+1) (fun e he=>h e (by simp [he]))]
theorem zqE {t:TypeId} {x:Value} {w:World}:∀ (L:List MapEntry) (i j:Nat) (e:MapEntry),L[j]?=some e→(Op.equal t x e.key).run P w=.ok true w→(∀ i' e',i' < j→L[i']?=some e'→(Op.equal t x e'.key).run P w=.ok false w)→(Instr.findAsking t x L i).run P w=.ok (some (i+j,e.val)) w
 | [],i,j,e,h,_,_=>by simp at h
 | e0::L,i,0,e,h,h1,_=>by simp at h; subst h; simp [Instr.findAsking,h1]
 | e0::L,i,j+1,e,h,h1,h2=>by
  have:=zqE L (i+1) j e (by simpa using h) h1 (fun i' e' hi he=>h2 (i'+1) e' (by omega) (by simpa using he))
  have e3:i+1+j=i+(j+1):=by omega
  rw [e3] at this
  simp [Instr.findAsking,h2 0 e0 (by omega) rfl,this]
theorem zuw {t:TypeId} {d:TypeDesc} (hd:P.underlying t=some d) {x:Value} {w:World} {L:List MapEntry} (h:∀ e ∈ L,zuh P t d w x e.key false):(Instr.findKey t x L).run P w=.ok none w:=by
 simp only [Instr.findKey,Sem.run_bind,run_underlying hd,Result.andThen_ok]
 cases L with
 | nil=>simp [Instr.findNow]
 | cons e0 L =>
  rcases h e0 (by simp) with ⟨⟨b,hb,rfl⟩,h1,h2⟩ | h1
  ·have ask:∀ e ∈ e0::L,(Op.equal t x e.key).run P w=.ok false w:=fun e he=>by
    rcases h e he with ⟨_,_,g⟩ | g
    ·exact g
    ·rw [h1] at g; cases g
   rw [show Instr.findNow d x (e0::L) 0=none by simp [Instr.findNow,h1]]
   exact zqb _ 0 ask
  ·by_cases hall:∀ e ∈ e0::L,Instr.sameNow d x e.key=some false
   ·rw [zt3 _ 0 hall]; rfl
   ·exfalso
    apply hall
    intro e he
    rcases h e he with ⟨_,g,_⟩ | g
    ·rw [g] at h1; cases h1
    ·exact g
theorem zty {t:TypeId} {d:TypeDesc} (hd:P.underlying t=some d) {x:Value} {w:World} {L:List MapEntry} {j:Nat} {e:MapEntry} (hj:L[j]?=some e) (h1:zuh P t d w x e.key true) (h2:∀ i' e',i' < j→L[i']?=some e'→zuh P t d w x e'.key false):(Instr.findKey t x L).run P w=.ok (some (j,e.val)) w:=by
 simp only [Instr.findKey,Sem.run_bind,run_underlying hd,Result.andThen_ok]
 rcases h1 with ⟨_,g1,g2⟩ | g1
 ·have hn:Instr.findNow d x L 0=none:=by
   cases L with
   | nil=>simp at hj
   | cons e0 L=>simp [Instr.findNow,g1]
  rw [hn]
  have:=zqE (P:=P) L 0 j e hj g2 (fun i' e' hi he=>by
   rcases h2 i' e' hi he with ⟨_,_,g⟩ | g
   ·exact g
   ·rw [g1] at g; cases g)
  simpa using this
 ·have:=zuA L 0 j e hj g1 (fun i' e' hi he=>by
   rcases h2 i' e' hi he with ⟨_,g,_⟩ | g
   ·rw [g] at g1; cases g1
   ·exact g)
  rw [this]; simp
theorem zFh {b:List B} {id:Nat} (hid:id < b.length) (es:List (V × V)):yz (b.set id (.mp es)) id=some 0:=by
 unfold yz; rw [List.getElem?_set_self hid]
theorem Rel.newMap (R:Rel ren we ωe U O σ a w ω μ) {id:Nat} (hid:σ.b[id]?=some .gone) :
  Rel ren we ωe U O (σ.setB id (.mp [])) a (w.alloc (.map #[] 0)) (upd ω w.heap.size (.blk id)) (upd μ id w.heap.size):=by
 have hlt:id < σ.b.length:=(List.getElem?_eq_some_iff.1 hid).1
 have hnew:(w.alloc (.map #[] 0)).heap[w.heap.size]?=some (.map #[] 0):=heap_alloc_new w _
 have hwsz:∀ k,ω k≠.no→k < w.heap.size:=fun k h=>(R.ow k h).2
 have hgs:∀ (l:Loc) β h,ω β=.gs l h→upd ω w.heap.size (.blk id) β=.gs l h∧(w.alloc (.map #[] 0)).heap[β]?=w.heap[β]?:=by
  intro l β h e
  have hβ:=hwsz β (by rw [e]; simp)
  exact ⟨by rw [xv _ _ (by omega)]; exact e,heap_alloc_old w _ hβ⟩
 have F:Fr (env U σ w ω μ) (env U (σ.setB id (.mp [])) (w.alloc (.map #[] 0)) (upd ω w.heap.size (.blk id)) (upd μ id w.heap.size)):=by
  refine ⟨fun k o u h1 h2=>?_,fun id' L hL=>?_⟩
  ·have hk:k < w.heap.size:=World.block_lt_of_cell? w ⟨k,o,none⟩ h2
   refine ⟨?_,(World.cell?_alloc_lt w _ ⟨k,o,none⟩ hk).trans h2⟩
   show ¬ wr U (upd ω w.heap.size (.blk id)) k o
   unfold wr
   rw [xv _ _ (by omega)]
   exact h1
  ·have hL:yz σ.b id'=some L:=hL
   have hne:id'≠id:=by rintro rfl; simp [yz,hid] at hL
   refine ⟨?_,xv _ _ hne,?_⟩
   ·show yz (σ.b.set id _) id'=some L
    unfold yz at hL ⊢
    rw [List.getElem?_set_ne (fun e=>hne e.symm)]
    exact hL
   ·show yE w (μ id')≤yE (w.alloc (.map #[] 0)) (μ id')
    by_cases hm:μ id' < w.heap.size
    ·unfold yE; rw [heap_alloc_old w _ hm]; exact Nat.le_refl _
    ·unfold yE; rw [Array.getElem?_eq_none (by omega)]; exact Nat.zero_le _
 refine R.step F rfl (fun t j β h _ e=>hgs _ β h e) (fun id' p' cs' h' hne'=>?_) (fun id' cs' h'=>?_) (fun id' es' h'=>?_) (Kept.alloc No w _) (fun k _ h=>znB h) (fun k hk=>?_) (fun k=>?_)
 ·by_cases hne:id'=id
  ·subst hne
   simp only [St.setB] at h'
   rw [List.getElem?_set_self hlt] at h'
   cases h'
  ·simp only [St.setB] at h'
   rw [List.getElem?_set_ne (fun e=>hne e.symm)] at h'
   obtain ⟨e0,arr',T',e1,_⟩:=R.live h' hne'
   have hβ:=hwsz (μ id') (by rw [e0]; simp)
   exact .inl ⟨h',by rw [xv _ _ (by omega)]; exact e0,heap_alloc_old w _ hβ,fun j β h e=>hgs _ β h e⟩
 ·by_cases hne:id'=id
  ·subst hne
   simp only [St.setB] at h'
   rw [List.getElem?_set_self hlt] at h'
   cases h'
  ·simp only [St.setB] at h'
   rw [List.getElem?_set_ne (fun e=>hne e.symm)] at h'
   obtain ⟨e0,arr',T',fr',e1,_⟩:=R.fs id' cs' h'
   have hβ:μ id' < w.heap.size:=(Array.getElem?_eq_some_iff.1 e1).1
   refine .inl ⟨h',fun o hw=>e0 o ?_,heap_alloc_old w _ hβ⟩
   unfold wr at hw ⊢
   rwa [xv _ _ (by omega)] at hw
 ·by_cases hne:id'=id
  ·subst hne
   simp only [St.setB] at h'
   rw [List.getElem?_set_self hlt] at h'
   cases h'
   exact .inr ⟨by rw [yH,yH],#[],0,by rw [yH]; exact hnew,rfl,by simp⟩
  ·simp only [St.setB] at h'
   rw [List.getElem?_set_ne (fun e=>hne e.symm)] at h'
   obtain ⟨e0,arr',clock',e1,_⟩:=R.ms id' es' h'
   have hβ:=hwsz (μ id') (by rw [e0]; simp)
   exact .inl ⟨h',by rw [xv _ _ (by omega)]; exact e0,heap_alloc_old w _ hβ⟩
 ·by_cases hk':k=w.heap.size
  ·subst hk'; exact ⟨.inl R.kp.size,by simp⟩
  ·rw [xv _ _ hk'] at hk
   exact ⟨(R.ow k hk).1,by have:=(R.ow k hk).2; simp; omega⟩
 ·by_cases hm:k < w.heap.size
  ·unfold yE; rw [heap_alloc_old w _ hm]; exact Nat.le_refl _
  ·unfold yE; rw [Array.getElem?_eq_none (xs:=w.heap) (by omega)]; exact Nat.zero_le _
theorem Rel.writeMap (R:Rel ren we ωe U O σ a w ω μ) {id:Nat} {es es':List (V × V)} (hid:σ.b[id]?=some (.mp es)) {arr':Array MapEntry} {clock':Nat} (hr:MapRep ren w (wr U ω) es' arr') :
  Rel ren we ωe U O (σ.setB id (.mp es')) a { w with heap:=w.heap.setIfInBounds (μ id) (.map arr' clock') } ω μ:=by
 have hlt:id < σ.b.length:=(List.getElem?_eq_some_iff.1 hid).1
 obtain ⟨e0,arr,clock,ha,_⟩:=R.ms id es hid
 have hin:μ id < w.heap.size:=(Array.getElem?_eq_some_iff.1 ha).1
 generalize hw':({ w with heap:=w.heap.setIfInBounds (μ id) (.map arr' clock') }:World)=w'
 have hw1:w'.heap[μ id]?=some (.map arr' clock'):=by subst hw'; simp [hin]
 have hw2:∀ k,k≠μ id→w'.heap[k]?=w.heap[k]?:=by intro k hk; subst hw'; simp [Ne.symm hk]
 have hk:Kept (fun k=>k=μ id) w w':=by subst hw'; exact ⟨rfl,rfl,rfl,by simp,fun k _ hn=>by simp [Ne.symm hn]⟩
 have hcell:∀ k o,k≠μ id→w'.cell? ⟨k,o,none⟩=w.cell? ⟨k,o,none⟩:=fun k o h=>World.cell?_of_block (hw2 k h)
 have hwr:∀ o,wr U ω (μ id) o:=fun o=>.inr (by rw [e0]; trivial)
 have hgs:∀ (l:Loc) β h,ω β=.gs l h→ω β=.gs l h∧w'.heap[β]?=w.heap[β]?:=by
  intro l β h e
  exact ⟨e,hw2 β (by rintro rfl; rw [e0] at e; cases e)⟩
 have hrs:∀ k,yE w k≤yE w' k:=by
  intro k
  by_cases hm:k=μ id
  ·rw [hm]; unfold yE; rw [ha,hw1]; exact Nat.le_refl _
  ·unfold yE; rw [hw2 _ hm]; exact Nat.le_refl _
 have F:Fr (env U σ w ω μ) (env U (σ.setB id (.mp es')) w' ω μ):=by
  refine ⟨fun k o u h1 h2=>⟨h1,?_⟩,fun id' L hL=>⟨?_,rfl,hrs _⟩⟩
  ·have:k≠μ id:=by rintro rfl; exact h1 (hwr o)
   exact (hcell k o this).trans h2
  ·have hL:yz σ.b id'=some L:=hL
   show yz (σ.b.set id _) id'=some L
   unfold yz at hL ⊢
   by_cases hne:id'=id
   ·subst hne
    rw [List.getElem?_set_self hlt]
    rw [hid] at hL
    simpa using hL
   ·rw [List.getElem?_set_ne (fun e=>hne e.symm)]; exact hL
 refine R.step F rfl (fun t j β h _ e=>hgs _ β h e) (fun id' p' cs'' h' hne'=>?_) (fun id' cs'' h'=>?_) (fun id' es'' h'=>?_) hk (fun k hk1 hk2=>?_) (fun k hk1=>?_) hrs
 ·by_cases hne:id'=id
  ·subst hne
   simp only [St.setB] at h'
   rw [List.getElem?_set_self hlt] at h'
   cases h'
  ·simp only [St.setB] at h'
   rw [List.getElem?_set_ne (fun e=>hne e.symm)] at h'
   obtain ⟨e1,_⟩:=R.live h' hne'
   exact .inl ⟨h',e1,hw2 _ (by intro e; rw [e,e0] at e1; cases e1; exact hne rfl),fun j β h e=>hgs _ β h e⟩
 ·by_cases hne:id'=id
  ·subst hne
   simp only [St.setB] at h'
   rw [List.getElem?_set_self hlt] at h'
   cases h'
  ·simp only [St.setB] at h'
   rw [List.getElem?_set_ne (fun e=>hne e.symm)] at h'
   obtain ⟨e1,_⟩:=R.fs id' cs'' h'
   exact .inl ⟨h',e1,hw2 _ (by intro e; rw [e] at e1; exact e1 0 (hwr 0))⟩
 ·by_cases hne:id'=id
  ·subst hne
   simp only [St.setB] at h'
   rw [List.getElem?_set_self hlt] at h'
   cases h'
   exact .inr ⟨e0,arr',clock',hw1,hr.mono F.st⟩
  ·simp only [St.setB] at h'
   rw [List.getElem?_set_ne (fun e=>hne e.symm)] at h'
   obtain ⟨e1,_⟩:=R.ms id' es'' h'
   exact .inl ⟨h',e1,hw2 _ (by intro e; rw [e,e0] at e1; cases e1; exact hne rfl)⟩
 ·subst hk2
  rcases (R.ow (μ id) (by rw [e0]; simp)).1 with h | h
  ·omega
  ·exact h
 ·exact ⟨(R.ow k hk1).1,Nat.lt_of_lt_of_le (R.ow k hk1).2 hk.size⟩
theorem zBx (t:TypeId) (w:World):(Instr.makeMap t none).run P w=.ok (.map (some w.heap.size)) (w.alloc (.map #[] 0)):=rfl
theorem zlh {r:Nat} {es:Array MapEntry} {clock:Nat} (hb:w.heap[r]?=some (.map es clock)):(getObj r).run P w=.ok (.map es clock) w:=by
 simp [getObj,Sem.run,hb]
theorem zw7 {r:Nat} {es:Array MapEntry} {clock:Nat} (o:Obj) (hb:w.heap[r]?=some (.map es clock)):(setObj r o).run P w=.ok () { w with heap:=w.heap.setIfInBounds r o }:=by
 simp [setObj,Sem.run,hb]
theorem zAK (R:Rel ren we ωe U O σ a w ω μ) {o:Oper} {t:TypeId} (hop:o.op=.makeMap t none) {nb:Nat} {cb:CB} {pin:Bool} {σ':St} (h:zj cb nb σ o.dst pin .makeMap=some σ'):StepOk P ren we ωe U O a w o σ' nb μ:=by
 simp only [zj] at h
 obtain ⟨d,hd,hg,rfl⟩:=zf8 h
 have hlt:nb+d < σ.b.length:=(List.getElem?_eq_some_iff.1 hg).1
 refine .value (u:=.map (some w.heap.size)) (w':=w.alloc (.map #[] 0)) (by simp [execOp,hop,zBx]) ?_
 refine ⟨_,_,(R.newMap hg).put o.dst (fun i _=>?_),fun k hk=>zks hk⟩
 have:=Rep.mp (ren:=ren) (E:=env U (σ.setB (nb+d) (.mp [])) (w.alloc (.map #[] 0)) (upd ω w.heap.size (.blk (nb+d))) (upd μ (nb+d) w.heap.size)) (l:=.slot i 0) (nb+d) 0 (zFh hlt _)
 simpa [env,yH] using this
theorem zy5 {E:En} {l:Loc} {kd:Nat} {k:V} {u:Value} (ho:zjf kd k=true) (h:Rep ren E l k u):RepP ren E.w E.Wr k u:=by
 unfold zjf at ho
 split at ho
 ·cases h with | pure h=>exact h
 ·cases h with | pure h=>exact h
 ·cases h with | pure h=>exact h
 ·cases ho
theorem zD3 {Wr:Nat→Nat→Prop} {t:TypeId} {v:V} (h:zz8 P t=some v):∃ i zv,P.info? t=some i∧i.zero=some zv∧RepP ren w Wr v zv:=by
 unfold zz8 at h
 simp only [Option.bind_eq_bind,Option.bind_eq_some_iff] at h
 obtain ⟨z,hz,b,hb,zv,⟨i,hi,hzv⟩,h⟩:=h
 obtain ⟨i',zv',hi',hzv',hc⟩:=zgU (ren:=ren) (w:=w) (Wr:=Wr) hz
 rw [hi] at hi'; cases hi'
 rw [hzv] at hzv'; cases hzv'
 have hd:=ziA hc
 refine ⟨i,zv,hi,hzv,?_⟩
 split at h
 ·cases h
  have:=hd.agg
  simpa [Value.cells] using this
 ·cases h
 ·rename_i hne
  cases h
  have e:zv.cells=#[zv]:=by cases zv <;> first | rfl | exact absurd rfl (hne _)
  rw [e] at hd
  obtain ⟨u,hu,_,hr⟩:=hd.2 0 _ rfl
  simp at hu; subst hu; exact hr
 ·cases h
theorem zCF (R:Rel ren we ωe U O σ a w ω μ) {o:Oper} {t kt e:TypeId} {x i:Operand} {ok:Bool} (hop:o.op=.lookup t x i ok) (ht:P.underlying t=some (.map kt e)) {kd:Nat} (hkd:zq6 P kt=some kd) {zero:V} (hz:zz8 P e=some zero) {sx si:Src} {t1 t2:TypeId} (hx:xt P ren t1 x=some sx) (hi:xt P ren t2 i=some si)
  {nb:Nat} {cb:CB} {pin:Bool} {σ':St} (h:zj cb nb σ o.dst pin (.mlook kd ok zero sx si)=some σ'):StepOk P ren we ωe U O a w o σ' nb μ:=by
 simp only [zj] at h
 split at h
 ·rename_i id hgx
  split at h
  ·rename_i es hes
   split at h
   ·rename_i hko
    simp only [Option.bind_eq_bind,Option.bind_eq_some_iff,Option.pure_def,Option.some.injEq] at h
    obtain ⟨r,hr,rfl⟩:=h
    have rx:=R.opnd hx; rw [hgx] at rx
    obtain ⟨L,_,ex⟩:=rx.mp_inv
    have ri:RepP ren w (wr U ω) (si.get σ) (a.eval i):=zy5 hko (R.opnd hi)
    obtain ⟨_,arr,clock,ha,hm1,hm2⟩:=R.ms id es hes
    have ex:a.eval x=.map (some (μ id)):=ex
    obtain ⟨d,hd⟩:∃ d,P.underlying kt=some d:=by
     unfold zq6 at hkd
     simp only [Option.bind_eq_bind,Option.bind_eq_some_iff] at hkd
     exact ⟨hkd.choose,hkd.choose_spec.1⟩
    obtain ⟨iz,zv,hiz,hzv,hzr⟩:=zD3 (ren:=ren) (w:=w) (Wr:=wr U ω) hz
    have hent:∀ (j:Nat) (e:MapEntry),arr.toList[j]?=some e→∃ k v,es[j]?=some (k,v)∧RepP ren w (wr U ω) k e.key∧RepP ren w (wr U ω) v e.val:=by
     intro j e he
     have hj:j < arr.size:=by have:=(List.getElem?_eq_some_iff.1 he).1; simpa using this
     have hj':j < es.length:=by omega
     obtain ⟨e',h1,h2,h3⟩:=hm2 j es[j].1 es[j].2 (List.getElem?_eq_getElem hj')
     have:e'=e:=by
      rw [Array.getElem?_toList] at he
      rw [he] at h1; cases h1; rfl
     subst this
     exact ⟨_,_,List.getElem?_eq_getElem hj',h2,h3⟩
    have key:∃ q:Option (Nat × Value),(Instr.findKey kt (a.eval i) arr.toList).run P w=.ok q w∧(match q with | some (_,v)=>r.isSome=true∧RepP ren w (wr U ω) (r.getD zero) v | none=>r=none):=by
     cases r with
     | none =>
      refine ⟨none,zuw hd (fun e he=>?_),rfl⟩
      obtain ⟨j,hj⟩:=List.mem_iff_getElem?.1 he
      obtain ⟨k,v,g1,g2,g3⟩:=hent j e hj
      exact (zo0 hkd hd hko ri g2 (zw2 hr j k v g1) w).1
     | some rv =>
      obtain ⟨j,k,g1,g2,g3⟩:=zxD hr
      obtain ⟨e,f1,f2,f3⟩:=hm2 j k rv g1
      refine ⟨some (j,e.val),zty hd (by simpa using f1) (zo0 hkd hd hko ri f2 g2 w).1 (fun i' e' hi' he'=>?_),rfl,f3⟩
      obtain ⟨k',v',q1,q2,q3⟩:=hent i' e' he'
      exact (zo0 hkd hd hko ri q2 (g3 i' k' v' hi' q1) w).1
    obtain ⟨q,hq1,hq2⟩:=key
    have fin:∃ uv:Value,∃ ub:Bool,(execOp a.eval o).run P w=.ok (.value (if ok then .tuple #[uv,.bool ub] else uv)) w∧RepP ren w (wr U ω) (r.getD zero) uv∧ub=r.isSome:=by
     cases q with
     | none =>
      have hq2:r=none:=hq2
      subst hq2
      refine ⟨zv,false,?_,hzr,rfl⟩
      simp [execOp,hop,ex,Instr.lookup,run_underlying ht,zlh ha,zqH hkd hko ri,hq1,zeroValue,typeInfo,hiz,hzv,Result.andThen_ok]
     | some p =>
      obtain ⟨j,v⟩:=p
      obtain ⟨g1,g2⟩:=hq2
      refine ⟨v,true,?_,g2,g1.symm⟩
      simp [execOp,hop,ex,Instr.lookup,run_underlying ht,zlh ha,zqH hkd hko ri,hq1,Result.andThen_ok]
    obtain ⟨uv,ub,f1,f2,f3⟩:=fin
    refine .value f1 ⟨ω,μ,R.put _ (fun s _=>?_),fun _ _=>rfl⟩
    subst f3
    cases ok with
    | false=>exact .pure f2
    | true =>
     refine .tup _ [uv,.bool r.isSome] rfl (fun j v u hv hu=>?_)
     match j with
     | 0=>simp at hv hu; subst hv; subst hu; exact .pure f2
     | 1=>simp at hv hu; subst hv; subst hu; exact .pure (.sc _ rfl)
     | j+2=>simp at hv
   ·cases h
  ·cases h
 ·cases h
theorem zDP (R:Rel ren we ωe U O σ a w ω μ) {o:Oper} {t kt e:TypeId} {x:Operand} (hop:o.op=.call { callee:=.builtin .len,args:=#[x],argTypes:=#[t] }) (ht:P.underlying t=some (.map kt e)) {sx:Src} {t1:TypeId} (hx:xt P ren t1 x=some sx)
  {nb:Nat} {cb:CB} {pin:Bool} {σ':St} (h:zj cb nb σ o.dst pin (.lenM sx)=some σ'):StepOk P ren we ωe U O a w o σ' nb μ:=by
 simp only [zj] at h
 split at h
 ·rename_i id hgx
  split at h
  ·rename_i es hes
   cases h
   have rx:=R.opnd hx; rw [hgx] at rx
   obtain ⟨L,_,ex⟩:=rx.mp_inv
   have ex:a.eval x=.map (some (μ id)):=ex
   obtain ⟨_,arr,clock,ha,hm1,hm2⟩:=R.ms id es hes
   refine .value (u:=.int .i64 es.length) (w':=w) ?_ ⟨ω,μ,R.put _ (fun s _=>.pure (.sc _ rfl)),fun _ _=>rfl⟩
   simp [execOp,hop,resolve,invoke,builtin,Builtin.len_,run_underlying ht,ex,zlh ha,goInt,hm1,Result.andThen_ok]
  ·cases h
 ·cases h
theorem zyR (R:Rel ren we ωe U O σ a w ω μ) {o:Oper} {t kt e:TypeId} {x i y:Operand} (hop:o.op=.mapUpdate t x i y∨o.op=.insert t x i y) (ht:P.underlying t=some (.map kt e)) {kd:Nat} (hkd:zq6 P kt=some kd) {sx si sy:Src} {t1 t2 t3:TypeId} (hx:xt P ren t1 x=some sx) (hi:xt P ren t2 i=some si) (hy:xt P ren t3 y=some sy)
  {nb:Nat} {cb:CB} {pin:Bool} {σ':St} (h:zj cb nb σ o.dst pin (.mput kd sx si sy)=some σ'):StepOk P ren we ωe U O a w o σ' nb μ:=by
 simp only [zj] at h
 split at h
 ·cases h
 rename_i hdst
 have hdst:o.dst=none:=by simpa using hdst
 split at h
 ·rename_i id hgx
  split at h
  ·rename_i es hes
   split at h
   ·rename_i hko
    simp only [Option.bind_eq_bind,Option.bind_eq_some_iff,Option.pure_def,Option.some.injEq] at h
    obtain ⟨val,hval,es',hset,rfl⟩:=h
    have rx:=R.opnd hx; rw [hgx] at rx
    obtain ⟨L,_,ex⟩:=rx.mp_inv
    have ri:RepP ren w (wr U ω) (si.get σ) (a.eval i):=zy5 hko (R.opnd hi)
    have ry:RepP ren w (wr U ω) val (a.eval y):=(R.opnd hy).plain R.hU hval
    obtain ⟨_,arr,clock,ha,hm1,hm2⟩:=R.ms id es hes
    have ex:a.eval x=.map (some (μ id)):=ex
    obtain ⟨d,hd⟩:∃ d,P.underlying kt=some d:=by
     unfold zq6 at hkd
     simp only [Option.bind_eq_bind,Option.bind_eq_some_iff] at hkd
     exact ⟨hkd.choose,hkd.choose_spec.1⟩
    have hent:∀ (j:Nat) (e:MapEntry),arr.toList[j]?=some e→∃ k v,es[j]?=some (k,v)∧RepP ren w (wr U ω) k e.key∧RepP ren w (wr U ω) v e.val:=by
     intro j e he
     have hj:j < arr.size:=by have:=(List.getElem?_eq_some_iff.1 he).1; simpa using this
     have hj':j < es.length:=by omega
     obtain ⟨e',h1,h2,h3⟩:=hm2 j es[j].1 es[j].2 (List.getElem?_eq_getElem hj')
     have:e'=e:=by
      rw [Array.getElem?_toList] at he
      rw [he] at h1; cases h1; rfl
     subst this
     exact ⟨_,_,List.getElem?_eq_getElem hj',h2,h3⟩
    have fin:∃ arr' clock',(execOp a.eval o).run P w=.ok .skip { w with heap:=w.heap.setIfInBounds (μ id) (.map arr' clock') }∧MapRep ren w (wr U ω) es' arr':=by
     rcases zzb hset with ⟨g1,rfl⟩ | ⟨j,k,r,g1,g2,g3,rfl⟩
     ·have hq:(Instr.findKey kt (a.eval i) arr.toList).run P w=.ok none w:=zuw hd (fun e he=>by
       obtain ⟨j,hj⟩:=List.mem_iff_getElem?.1 he
       obtain ⟨k,v,q1,q2,q3⟩:=hent j e hj
       exact (zo0 hkd hd hko ri q2 (g1 j k v q1) w).1)
      refine ⟨arr.push { key:=a.eval i,val:=a.eval y,born:=clock },clock+1,?_,by simp [hm1],fun j k v hj=>?_⟩
      ·rcases hop with hop | hop <;> simp [execOp,hop,ex,Instr.mapUpdate,run_underlying ht,zlh ha,zqH hkd hko ri,hq,zw7 _ ha,Result.andThen_ok]
      ·by_cases hlt:j < es.length
       ·rw [List.getElem?_append_left hlt] at hj
        obtain ⟨e,f1,f2,f3⟩:=hm2 j k v hj
        exact ⟨e,by rw [Array.getElem?_push,if_neg (by omega)]; exact f1,f2,f3⟩
       ·rw [List.getElem?_append_right (by omega)] at hj
        have hj0:j=es.length:=by
         have:=(List.getElem?_eq_some_iff.1 hj).1
         simp at this; omega
        subst hj0
        simp at hj
        obtain ⟨rfl,rfl⟩:=hj
        exact ⟨_,by rw [Array.getElem?_push,if_pos hm1.symm],ri,ry⟩
     ·obtain ⟨e,f1,f2,f3⟩:=hm2 j k r g1
      have hkc:=zo0 hkd hd hko ri f2 g2 w
      have hq:(Instr.findKey kt (a.eval i) arr.toList).run P w=.ok (some (j,e.val)) w:=zty hd (by simpa using f1) hkc.1 (fun i' e' hi' he'=>by
       obtain ⟨k',v',q1,q2,q3⟩:=hent i' e' he'
       exact (zo0 hkd hd hko ri q2 (g3 i' k' v' hi' q1) w).1)
      have hst:(Instr.keyThatStays e.key (a.eval i)).run P w=.ok (a.eval i) w:=by
       simp [Instr.keyThatStays,hkc.2 rfl]
      have hjl:j < es.length:=(List.getElem?_eq_some_iff.1 g1).1
      refine ⟨arr.modify j fun e=>{ e with key:=a.eval i,val:=a.eval y },clock,?_,by simp [hm1],fun j' k' v' hj'=>?_⟩
      ·rcases hop with hop | hop <;> simp [execOp,hop,ex,Instr.mapUpdate,run_underlying ht,zlh ha,zqH hkd hko ri,hq,f1,hst,zw7 _ ha,Result.andThen_ok]
      ·by_cases hjj:j'=j
       ·subst hjj
        rw [List.getElem?_set_self hjl] at hj'
        cases hj'
        exact ⟨{ e with key:=a.eval i,val:=a.eval y },by rw [Array.getElem?_modify,if_pos rfl,f1]; rfl,ri,ry⟩
       ·rw [List.getElem?_set_ne (fun e=>hjj e.symm)] at hj'
        obtain ⟨e',q1,q2,q3⟩:=hm2 j' k' v' hj'
        exact ⟨e',by rw [Array.getElem?_modify,if_neg (fun e=>hjj e.symm)]; exact q1,q2,q3⟩
    obtain ⟨arr',clock',f1,f2⟩:=fin
    refine .skip f1 ⟨ω,μ,?_,fun _ _=>rfl⟩
    rw [hdst]
    exact R.writeMap hes f2
   ·cases h
  ·cases h
 ·cases h
end
section
set_option linter.unusedVariables false
set_option linter.unusedSimpArgs false
variable {ren:Rn} {we:World} {ωe:Nat→Ow} {U:Nat→Nat→Prop} {O:Nat→Prop} {σ:St} {a:Act} {w:World} {ω:Nat→Ow} {μ:Nat→Nat} {P:Program} {nb:Nat}
theorem Rel.setSlot (R:Rel ren we ωe U O σ a w ω μ) (t:Nat) {v:V} (h:Rep ren (env U σ w ω μ) (.slot t 0) v (a.tmps.getD t undef)):Rel ren we ωe U O { σ with t:=σ.t.set t v } a w ω μ:=by
 refine ⟨R.df,by simpa using R.tl,fun j v' hj=>?_,R.bs,R.fs,R.ms,R.kp,R.ow,R.ul,R.fr,R.rs,R.gv⟩
 show Rep ren (env U σ w ω μ) _ _ _
 simp only at hj
 by_cases hjt:j=t
 ·subst hjt
  have hlt:j < σ.t.length:=by have:=(List.getElem?_eq_some_iff.1 hj).1; simpa using this
  rw [List.getElem?_set_self hlt] at hj
  cases hj
  exact h
 ·rw [List.getElem?_set_ne (fun e=>hjt e.symm)] at hj
  exact R.ts j v' hj
theorem Rep.held {E:En} {l:Loc} {v:V} {u:Value} (h:Rep ren E l v u) (hv:∀ x xs,v≠.tup (x::xs)):(∀ l',Rep ren E l' v u)∨(∃ β h,E.ω β=.gs l h∧∀ (E':En) (l':Loc),Fr E E'→E'.ω β=.gs l' h→E'.w.heap[β]?=E.w.heap[β]?→Rep ren E' l' v u):=by
 cases h with
 | pure h=>exact .inl fun _=>.pure h
 | gs sz es β c arr T f hω hb hc hn hsz hcell h1 h =>
  exact .inr ⟨β,_,hω,fun E' l' F g1 g2=>.gs sz es β c arr T f g1 (by rw [g2]; exact hb) hc hn hsz hcell h1 (fun i v hv=>(h i v hv).mono F.st)⟩
 | fr sz es β c arr T f hω hb hc hn hsz hcell h1 h =>
  exact .inr ⟨β,_,hω,fun E' l' F g1 g2=>.fr sz es β c arr T f g1 (by rw [g2]; exact hb) hc hn hsz hcell h1 (fun i v hv=>(h i v hv).mono F.st)⟩
 | fr0 sz A=>exact .inl fun _=>.fr0 sz A
 | ub b=>exact .inl fun _=>.ub b
 | mp id L hL=>exact .inl fun _=>.mp id L hL
 | bx p cs β arr T f hω hb hn hcell h1 h =>
  exact .inr ⟨β,_,hω,fun E' l' F g1 g2=>.bx p cs β arr T f g1 (by rw [g2]; exact hb) hn hcell h1 (fun i v hv=>(h i v hv).mono F.st)⟩
 | own id off len sz c L A hL hl hc hA=>exact .inl fun _=>.own id off len sz c L A hL hl hc hA
 | cut id off len cap sz c L A hL hl hc hA=>exact .inl fun _=>.cut id off len cap sz c L A hL hl hc hA
 | ptr id off L hL=>exact .inl fun _=>.ptr id off L hL
 | fp n cs k o f hl hcell h1 h=>exact .inl fun _=>.fp n cs k o f hl hcell h1 h
 | fn f g caps us hr hl h=>exact .inl fun _=>.fn f g caps us hr hl h
 | tup vs us hl h =>
  cases vs with
  | nil =>
   cases us with
   | nil=>exact .inl fun _=>.tup [] [] rfl (by simp)
   | cons x xs=>simp at hl
  | cons x xs=>exact absurd rfl (hv x xs)
 | st cs us hl h h1=>exact .inl fun _=>.st cs us hl h h1
 | junk=>exact .inl fun _=>.junk
theorem zAY (R:Rel ren we ωe U O σ a w ω μ) {o:Oper} {x:Operand} {i:Nat} (hop:o.op=.extract x i) {s:Src} {t1:TypeId} (hs:xt P ren t1 x=some s) {nb:Nat} {cb:CB} {pin:Bool} {σ':St} (h:zj cb nb σ o.dst pin (.extract s i)=some σ'):StepOk P ren we ωe U O a w o σ' nb μ:=by
 simp only [zj] at h
 split at h
 ·rename_i vs hg
  split at h
  ·rename_i v t hvi
   split at h
   ·rename_i hall
    have hx:a.eval x=a.tmps.getD t undef:=(R.opndC hs).1 t rfl
    have hr:=R.opnd hs
    rw [hg] at hr
    have hr:Rep ren (env U σ w ω μ) (.slot t 0) (.tup vs) (a.eval x):=hr
    obtain ⟨us,eu,hl,hel⟩:=hr.tup_inv
    have hlt:i < vs.length:=(List.getElem?_eq_some_iff.1 hvi).1
    have hui:us[i]?=some us[i]:=List.getElem?_eq_getElem (by omega)
    have hnt:∀ (j:Nat) (v:V),vs[j]?=some v→∀ x xs,v≠.tup (x::xs):=by
     intro j v hj x xs e
     have:=List.all_eq_true.1 hall.1 v (List.mem_of_getElem? hj)
     subst e
     simp [zAO] at this
    refine .value (u:=us[i]) (w':=w) (by simp [execOp,hop,eu,Instr.extract,hui]) ?_
    have R1:Rel ren we ωe U O { σ with t:=σ.t.set t (.tup (vs.set i .junk)) } a w ω μ:=by
     refine R.setSlot t ?_
     rw [← hx,eu]
     refine .tup _ us (by simp [hl]) (fun j v' u' hj hu=>?_)
     by_cases hji:j=i
     ·subst hji
      rw [List.getElem?_set_self hlt] at hj; cases hj; exact .junk
     ·rw [List.getElem?_set_ne (fun e=>hji e.symm)] at hj
      exact hel j v' u' hj hu
    have hT:({ σ with t:=σ.t.set t (.tup (vs.set i .junk)) }:St).t.length≤σ.t.length:=by simp
    split at h
    case isFalse =>
     split at h
     ·cases h
     ·cases h
      exact ⟨ω,μ,R.put _ (fun j _=>(hel i v us[i] hvi hui).dem R.hU _),fun _ _=>rfl⟩
    rcases (hel i v us[i] hvi hui).held (hnt i v hvi) with hlight | ⟨β,hh,hβ,hmk⟩
    ·exact R1.putR hT (hlight (.slot σ.t.length 0)) h
    ·have hβ:ω β=.gs (.slot t (i+1)) hh:=hβ
     have F:=zoW U σ w μ hβ (.slot σ.t.length 0)
     have R2:=R1.relabel (l:=.slot t (i+1)) hβ (.slot σ.t.length 0) (fun t' v' hj hlh=>by
      cases hlh
      simp only at hj
      have hlt':t < σ.t.length:=by have:=(List.getElem?_eq_some_iff.1 hj).1; simpa using this
      rw [List.getElem?_set_self hlt'] at hj
      cases hj
      rw [← hx,eu]
      refine .tup _ us (by simp [hl]) (fun j v' u' hj hu=>?_)
      by_cases hji:j=i
      ·subst hji
       rw [List.getElem?_set_self hlt] at hj; cases hj; exact .junk
      ·rw [List.getElem?_set_ne (fun e=>hji e.symm)] at hj
       refine (hel j v' u' hj hu).frame1 F (hnt j v' hj) (fun β2 h2 e2=>⟨?_,rfl⟩)
       have e2:ω β2=.gs (.slot t (j+1)) h2:=e2
       show upd ω β _ β2=_
       rw [xv]
       ·exact e2
       ·rintro rfl
        rw [hβ] at e2; cases e2
        exact hji rfl) (fun id j p cs v hb hc hl=>by cases hl)
     exact R2.putR hT (hmk _ _ F (yH _ _ _) rfl) h
   ·cases h
  ·cases h
 ·cases h
theorem zyP (R:Rel ren we ωe U O σ a w ω μ) {o:Oper} (hop:o.op=.move (.const (.slice none 0 0))∨o.op=.assign (.const (.slice none 0 0))) {sz k:Nat} {nb:Nat} {cb:CB} {pin:Bool} {σ':St} (h:zj cb nb σ o.dst pin (.nilS sz k)=some σ'):StepOk P ren we ωe U O a w o σ' nb μ:=by
 have run:(execOp a.eval o).run P w=.ok (.value (.slice none 0 0)) w:=by
  rcases hop with e | e <;> simp [execOp,e,Act.eval]
 refine .value run ?_
 simp only [zj] at h
 split at h
 ·rename_i hg
  cases h
  have hlt:nb+k < σ.b.length:=(List.getElem?_eq_some_iff.1 hg).1
  have hne:∀ id L,yz σ.b id=some L→id≠nb+k:=by rintro id L hL rfl; simp [yz,hg] at hL
  have F:Fr (env U σ w ω μ) (env U (σ.setB (nb+k) (.live true [])) w ω μ):=by
   refine ⟨fun k o u h1 h2=>⟨h1,h2⟩,fun id L hL=>⟨?_,rfl,Nat.le_refl _⟩⟩
   have hL:yz σ.b id=some L:=hL
   show yz (σ.b.set (nb+k) _) id=some L
   have:=hne id L hL
   unfold yz at hL ⊢
   rw [List.getElem?_set_ne (fun e=>this e.symm)]
   exact hL
  have R':Rel ren we ωe U O (σ.setB (nb+k) (.live true [])) a w ω μ:=by
   refine R.step F rfl (fun t j β h _ e=>⟨e,rfl⟩) (fun id p cs h' hn=>?_) (fun id cs h'=>?_) (fun id es h'=>?_) (Kept.refl No w) (fun k _ h=>znB h) R.ow (fun k=>Nat.le_refl _)
   ·by_cases he:id=nb+k
    ·subst he
     simp only [St.setB] at h'
     rw [List.getElem?_set_self hlt] at h'
     cases h'; exact absurd rfl hn
    ·simp only [St.setB] at h'
     rw [List.getElem?_set_ne (fun e=>he e.symm)] at h'
     exact .inl ⟨h',(R.live h' hn).1,rfl,fun j β h e=>⟨e,rfl⟩⟩
   ·by_cases he:id=nb+k
    ·subst he
     simp only [St.setB] at h'
     rw [List.getElem?_set_self hlt] at h'
     cases h'
    ·simp only [St.setB] at h'
     rw [List.getElem?_set_ne (fun e=>he e.symm)] at h'
     exact .inl ⟨h',(R.fs id cs h').1,rfl⟩
   ·by_cases he:id=nb+k
    ·subst he
     simp only [St.setB] at h'
     rw [List.getElem?_set_self hlt] at h'
     cases h'
    ·simp only [St.setB] at h'
     rw [List.getElem?_set_ne (fun e=>he e.symm)] at h'
     exact .inl ⟨h',(R.ms id es h').1,rfl⟩
  refine ⟨ω,μ,R'.put o.dst (fun i _=>?_),fun _ _=>rfl⟩
  refine .own (nb+k) 0 0 sz 0 0 none ?_ (by simp) ⟨Nat.le_refl _,fun _=>.inr rfl⟩ (.inr ⟨rfl,rfl⟩)
  show yz (σ.b.set (nb+k) _) (nb+k)=some 0
  unfold yz
  rw [List.getElem?_set_self hlt]
  rfl
 ·cases h
theorem zEM (R:Rel ren we ωe U O σ a w ω μ) {o:Oper} {take:Bool} {xs:List Nat} {k:K} (hk:cK P ren o take xs=some k) {nb:Nat} {cb:CB} {pin:Bool} {σ':St} (h:zj cb nb σ o.dst pin k=some σ') (hc1:∀ f xs ys,k≠.call f xs ys) (hc2:∀ f xs ys,k≠.callv f xs ys):StepOk P ren we ωe U O a w o σ' nb μ:=by
 have pure:(xr σ k).map (fun v=>σ.put o.dst v)=some σ'→StepOk P ren we ωe U O a w o σ' nb μ:=by
  intro hp
  simp only [Option.map_eq_some_iff] at hp
  obtain ⟨v,hv,rfl⟩:=hp
  exact .gives R (zFr R hk hv)
 have hk0:=hk
 unfold cK at hk
 split at hk <;> (try simp only [Option.bind_eq_bind,Option.bind_eq_some_iff,Option.some.injEq] at hk)
 ·rename_i hop
  rcases znT _ _ hk with ⟨sz,k',rfl,rfl⟩ | ⟨s,hs,rfl⟩ | ⟨s,hs,rfl⟩ | ⟨s,hs,rfl⟩
  ·exact zyP R (.inl hop) h
  ·exact zup R (.inl hop) hs h
  ·exact zxp R (.inl hop) hs h
  ·exact pure h
 ·rename_i hop
  rcases znT _ _ hk with ⟨sz,k',rfl,rfl⟩ | ⟨s,hs,rfl⟩ | ⟨s,hs,rfl⟩ | ⟨s,hs,rfl⟩
  ·exact zyP R (.inr hop) h
  ·exact zup R (.inr hop) hs h
  ·exact zxp R (.inr hop) hs h
  ·exact pure h
 ·obtain ⟨s1,h1,s2,h2,s3,h3,rfl⟩:=hk; exact pure h
 ·rename_i hop; obtain ⟨z,hz,rfl⟩:=hk; exact zCv R hop hz h
 ·rename_i hop; obtain ⟨z,_,s,hs,rfl⟩:=hk; exact zEs R hop hs h
 ·obtain ⟨z,_,d,_,hk⟩:=hk
  split at hk <;> (try simp only [Option.bind_eq_some_iff,Option.some.injEq] at hk)
  ·obtain ⟨_,_,_,_,rfl⟩:=hk; cases take <;> exact pure h
  ·obtain ⟨_,_,_,_,rfl⟩:=hk; cases take <;> exact pure h
  ·cases hk
 ·rename_i hop
  obtain ⟨d,hd,hk⟩:=hk
  split at hk <;> (try simp only [Option.bind_eq_some_iff] at hk)
  ·obtain ⟨z,hz,sz,hsz,hk⟩:=hk
   split at hk
   ·rename_i hcond
    simp only [Option.bind_eq_some_iff,Option.some.injEq] at hk; obtain ⟨ps,hps,rfl⟩:=hk
    exact zxa R hop hd hz hsz hcond.1 hcond.2.1 hcond.2.2 hps h
   ·cases hk
  ·cases hk
 ·rename_i hop; obtain ⟨b,hb,n,hn,s,hs,rfl⟩:=hk; exact zDX R hop hb hn hs h
 ·rename_i hop; obtain ⟨n,hn,s,hs,s2,hs2,rfl⟩:=hk; exact zCH R hop hn hs hs2 h
 ·obtain ⟨s1,h1,rfl⟩:=hk; exact pure h
 ·obtain ⟨d,hd,hk⟩:=hk
  split at hk <;> (try simp only [Option.bind_eq_some_iff,Option.some.injEq] at hk)
  ·obtain ⟨s1,h1,s2,h2,rfl⟩:=hk; exact pure h
  ·obtain ⟨s1,h1,s2,h2,rfl⟩:=hk; exact pure h
  ·split at hk
   ·split at hk
    ·simp only [Option.bind_eq_some_iff,Option.some.injEq] at hk
     obtain ⟨s1,h1,rfl⟩:=hk; exact pure h
    ·cases hk
   ·cases hk
  ·split at hk
   ·simp only [Option.bind_eq_some_iff,Option.some.injEq] at hk
    obtain ⟨s1,h1,s2,h2,rfl⟩:=hk; exact pure h
   ·cases hk
  ·split at hk
   ·simp only [Option.bind_eq_some_iff,Option.some.injEq] at hk
    obtain ⟨s1,h1,s2,h2,rfl⟩:=hk; exact pure h
   ·cases hk
  ·split at hk
   ·simp only [Option.bind_eq_some_iff,Option.some.injEq] at hk
    obtain ⟨s1,h1,s2,h2,rfl⟩:=hk; exact pure h
   ·cases hk
  ·cases hk
 ·obtain ⟨s1,h1,rfl⟩:=hk; exact pure h
 ·obtain ⟨d1,hd1,d2,hd2,hk⟩:=hk
  split at hk <;> (try simp only [Option.bind_eq_some_iff,Option.some.injEq] at hk)
  ·obtain ⟨s1,h1,rfl⟩:=hk; exact pure h
  ·obtain ⟨d3,hd3,hk⟩:=hk
   split at hk
   ·simp only [Option.bind_eq_some_iff,Option.some.injEq] at hk
    obtain ⟨s1,h1,rfl⟩:=hk; exact pure h
   ·cases hk
  ·cases hk
 ·split at hk
  ·split at hk
   ·simp only [Option.bind_eq_bind,Option.bind_eq_some_iff,Option.some.injEq] at hk
    obtain ⟨g,hg,ss,hs,rfl⟩:=hk; exact pure h
   ·cases hk
  ·cases hk
 ·rename_i hop
  obtain ⟨d,hd,hk⟩:=hk
  split at hk <;> (try simp only [Option.bind_eq_some_iff] at hk)
  ·obtain ⟨z,hz,sz,hsz,i,hi,hk⟩:=hk
   split at hk
   ·rename_i hcond
    simp only [Option.bind_eq_some_iff,Option.some.injEq] at hk; obtain ⟨_,h1,_,h2,rfl⟩:=hk
    exact zx4 R hop hd hz hsz hi hcond.1 hcond.2 h1 h2 h
   ·cases hk
  ·cases hk
 ·split at hk
  ·cases hk
  ·simp only [Option.bind_eq_bind,Option.bind_eq_some_iff] at hk
   obtain ⟨d,hd,hk⟩:=hk
   split at hk <;> (try simp only [Option.bind_eq_some_iff] at hk)
   ·obtain ⟨sz,hsz,hk⟩:=hk
    split at hk
    ·simp only [Option.bind_eq_some_iff,Option.some.injEq] at hk
     obtain ⟨s0,h0,s1,h1,s2,h2,s3,h3,rfl⟩:=hk; exact pure h
    ·cases hk
   ·obtain ⟨sz,hsz,hk⟩:=hk
    split at hk
    ·split at hk
     ·simp only [Option.bind_eq_some_iff,Option.some.injEq] at hk
      obtain ⟨s0,h0,s2,h2,rfl⟩:=hk; exact pure h
     ·cases hk
    ·split at hk
     ·simp only [Option.bind_eq_some_iff,Option.some.injEq] at hk
      obtain ⟨s0,h0,s1,h1,s2,h2,s3,h3,rfl⟩:=hk; exact pure h
     ·cases hk
   ·cases hk
 ·obtain ⟨d,hd,hk⟩:=hk
  split at hk <;> (try simp only [Option.bind_eq_some_iff] at hk)
  ·obtain ⟨f,hf,n,hn,hk⟩:=hk
   split at hk
   ·cases hk
   ·simp only [Option.bind_eq_some_iff,Option.some.injEq] at hk
    obtain ⟨s1,h1,rfl⟩:=hk; exact pure h
  ·cases hk
 ·obtain ⟨d,hd,hk⟩:=hk
  split at hk <;> (try simp only [Option.bind_eq_some_iff,Option.some.injEq] at hk)
  ·obtain ⟨f,hf,b,hb,n,hn,s1,h1,rfl⟩:=hk; exact pure h
  ·cases hk
 ·obtain ⟨d,hd,hk⟩:=hk
  split at hk <;> (try simp only [Option.bind_eq_some_iff,Option.some.injEq] at hk)
  ·obtain ⟨n,hn,s1,h1,s2,h2,rfl⟩:=hk; exact pure h
  ·obtain ⟨sz,hsz,hk⟩:=hk
   split at hk
   ·simp only [Option.bind_eq_some_iff,Option.some.injEq] at hk
    obtain ⟨s1,h1,s2,h2,rfl⟩:=hk; exact pure h
   ·cases hk
  ·cases hk
 ·obtain ⟨d,hd,hk⟩:=hk
  split at hk <;> (try simp only [Option.bind_eq_some_iff,Option.some.injEq] at hk)
  ·obtain ⟨b,hb,n,hn,s1,h1,s2,h2,rfl⟩:=hk; exact pure h
  ·cases hk
 ·obtain ⟨d,hd,hk⟩:=hk
  split at hk <;> (try simp only [Option.bind_eq_some_iff] at hk)
  ·obtain ⟨sz,hsz,hk⟩:=hk
   split at hk
   ·simp only [Option.bind_eq_some_iff,Option.some.injEq] at hk
    obtain ⟨s1,h1,rfl⟩:=hk; exact pure h
   ·cases hk
  ·cases hk
 ·rename_i hop
  split at hk
  ·rename_i hr
   cases hk
   rename_i t r
   have hr:r=none:=by simpa using hr
   subst hr
   exact zAK R hop h
  ·cases hk
 ·rename_i hop
  obtain ⟨d,hd,hk⟩:=hk
  split at hk <;> (try simp only [Option.bind_eq_some_iff,Option.some.injEq] at hk)
  ·obtain ⟨kd,hkd,z,hz,s1,h1,s2,h2,rfl⟩:=hk; exact zCF R hop hd hkd hz h1 h2 h
  ·cases hk
 ·rename_i hop
  obtain ⟨d,hd,hk⟩:=hk
  split at hk <;> (try simp only [Option.bind_eq_some_iff,Option.some.injEq] at hk)
  ·obtain ⟨kd,hkd,s1,h1,s2,h2,s3,h3,rfl⟩:=hk; exact zyR R (.inl hop) hd hkd h1 h2 h3 h
  ·cases hk
 ·rename_i hop
  obtain ⟨d,hd,hk⟩:=hk
  split at hk <;> (try simp only [Option.bind_eq_some_iff,Option.some.injEq] at hk)
  ·obtain ⟨kd,hkd,s1,h1,s2,h2,s3,h3,rfl⟩:=hk; exact zyR R (.inr hop) hd hkd h1 h2 h3 h
  ·cases hk
 ·rename_i hop; obtain ⟨s,hs,rfl⟩:=hk
  cases take with
  | true=>exact zAY R hop hs h
  | false=>exact pure h
 ·rename_i c hop
  obtain ⟨callee,args,ats⟩:=c
  simp only at hk
  split at hk <;> (try simp only [Option.bind_eq_bind,Option.bind_eq_some_iff,Option.some.injEq] at hk)
  ·split at hk
   ·split at hk
    ·simp only [Option.bind_eq_bind,Option.bind_eq_some_iff,Option.some.injEq] at hk
     obtain ⟨s1,h1,s2,h2,rfl⟩:=hk; exact pure h
    ·cases hk
   ·simp only [Option.bind_eq_bind,Option.bind_eq_some_iff,Option.some.injEq] at hk
    obtain ⟨_,_,_,_,rfl⟩:=hk; exact absurd rfl (hc1 _ _ _)
  ·obtain ⟨_,_,rfl⟩:=hk; exact absurd rfl (hc2 _ _ _)
  ·unfold zpi at hk
   split at hk <;> (try simp only [Option.bind_eq_bind,Option.bind_eq_some_iff,Option.some.injEq] at hk)
   ·obtain ⟨d,hd,hk⟩:=hk
    split at hk <;> (try simp only [Option.bind_eq_some_iff,Option.some.injEq] at hk)
    ·obtain ⟨s1,h1,rfl⟩:=hk; exact pure h
    ·obtain ⟨s1,h1,rfl⟩:=hk; exact pure h
    ·subst hk; exact pure h
    ·rename_i e1 e2 _ _ _
     obtain rfl:=zaV e1
     obtain rfl:=zaV e2
     obtain ⟨s1,h1,rfl⟩:=hk; exact zDP R hop hd h1 h
    ·cases hk
   ·rename_i e1 e2
    obtain rfl:=zaV e1
    obtain rfl:=zaV e2
    obtain ⟨d1,hd1,d2,hd2,hk⟩:=hk
    split at hk <;> (try simp only [Option.bind_eq_some_iff] at hk)
    ·obtain ⟨sz,hsz,i,hi,z,hz,hk⟩:=hk
     split at hk
     ·rename_i hcond
      obtain ⟨q1,q2,q3⟩:=hcond
      subst q3
      simp only [Option.bind_eq_some_iff,Option.some.injEq] at hk; obtain ⟨_,h1,_,h2,rfl⟩:=hk
      exact zBu R hop hd1 hsz hi hz q1 q2 h1 h2 h
     ·cases hk
    ·obtain ⟨sz,hsz,i,hi,z,hz,hk⟩:=hk
     split at hk
     ·rename_i hcond
      simp only [Option.bind_eq_some_iff,Option.some.injEq] at hk; obtain ⟨_,h1,_,h2,rfl⟩:=hk
      exact zA7 R hop hd1 hd2 hsz hi hz hcond.1 hcond.2 h1 h2 h
     ·cases hk
    ·cases hk
   ·rename_i e1 e2
    obtain rfl:=zaV e1
    obtain rfl:=zaV e2
    obtain ⟨d1,hd1,d2,hd2,hk⟩:=hk
    split at hk <;> (try simp only [Option.bind_eq_some_iff] at hk)
    ·obtain ⟨sz,hsz,hk⟩:=hk
     split at hk
     ·simp only [Option.bind_eq_some_iff,Option.some.injEq] at hk; obtain ⟨_,h1,_,h2,rfl⟩:=hk
      exact zDl R hop hd1 hsz (by assumption) h1 h2 h
     ·cases hk
    ·cases hk
   ·rename_i e1 e2
    obtain rfl:=zaV e1
    obtain rfl:=zaV e2
    obtain ⟨d1,hd1,hk⟩:=hk
    split at hk <;> (try simp only [Option.bind_eq_some_iff] at hk)
    ·obtain ⟨sz,hsz,z,hz,hk⟩:=hk
     split at hk
     ·rename_i hcond
      simp only [Option.bind_eq_some_iff,Option.some.injEq] at hk; obtain ⟨_,h1,rfl⟩:=hk
      exact zCR R hop hd1 hsz hcond.1 hz hcond.2 h1 h
     ·cases hk
    ·cases hk
   ·obtain ⟨s1,h1,s2,h2,rfl⟩:=hk; exact pure h
   ·obtain ⟨s1,h1,s2,h2,rfl⟩:=hk; exact pure h
   ·cases hk
  ·cases hk
 ·cases hk
end
section
set_option linter.unusedVariables false
set_option linter.unusedSimpArgs false
variable {ren:Rn} {we:World} {ωe:Nat→Ow} {U:Nat→Nat→Prop} {O:Nat→Prop} {σ:St} {a:Act} {w:World} {ω:Nat→Ow} {μ:Nat→Nat} {P:Program}
def toB (x:B):B:=x
theorem zB1 (l:List B):l.map toB=l:=by induction l with | nil=>rfl | cons x l ih=>simp [toB,ih]
def zGA (P:Program) (ren:Rn) (f:FuncId) (args:List V) (bor:Bor) (r:V) (bor':Bor):Prop :=
 ∀ (w:World) (us:List Value) (U:Nat→Nat→Prop) (O:Nat→Prop) (ω:Nat→Ow) (μ:Nat→Nat),Rel ren w ω U O ⟨args,bor.map toB⟩ ⟨us.toArray,[]⟩ w ω μ →
  Calls P f us.toArray w fun e w'=>∃ u ω' μ',e=.returned u∧Rel ren w ω U O ⟨[r],bor'.map toB⟩ ⟨#[u],[]⟩ w' ω' μ'∧∀ k,k < bor.length→μ' k=μ k
def zf7 (P:Program) (f:FuncId):Bool:=match P.funcs[f]? with | some fn=>fn.body.isSome && fn.name != "runtime.NumGoroutine" | none=>false
def zgW (P:Program) (ren:Rn) (cb:CB):Prop:=∀ g args bor r bor',cb g args bor=some (r,bor')→∀ f,ren f=some g→zf7 P f=true∧zGA P ren f args bor r bor'
theorem zsw (b:List B) (id k:Nat):(yT b id)[k]?=b[k]?∨(∃ cs,b[k]?=some (.live true cs)∧k=id∧cs≠[]∧(yT b id)[k]?=some (.fz cs)):=by
 unfold yT
 split
 ·rename_i c cs hb
  by_cases hk:k=id
  ·subst hk
   exact .inr ⟨c::cs,hb,rfl,by simp,List.getElem?_set_self (List.getElem?_eq_some_iff.1 hb).1⟩
  ·exact .inl (List.getElem?_set_ne (fun e=>hk e.symm))
 ·exact .inl rfl
theorem zvJ {b:List B} {id:Nat} {cs:List V} (hb:b[id]?=some (.live true cs)) (hne:cs≠[]):yT b id=b.set id (.fz cs):=by
 cases cs with
 | nil=>exact absurd rfl hne
 | cons c cs=>unfold yT; rw [hb]
theorem Rel.freeze (R:Rel ren we ωe U O σ a w ω μ) (id:Nat):∃ ω',Rel ren we ωe U O { σ with b:=yT σ.b id } a w ω' μ∧Fr (env U σ w ω μ) (env U { σ with b:=yT σ.b id } w ω' μ):=by
 by_cases hl:∃ cs,σ.b[id]?=some (.live true cs)∧cs≠[]
 ·obtain ⟨cs,hb,hcne⟩:=hl
  have hlt:id < σ.b.length:=(List.getElem?_eq_some_iff.1 hb).1
  have hf:yT σ.b id=σ.b.set id (.fz cs):=zvJ hb hcne
  obtain ⟨e0,arr,T,e1,e2,e3⟩:=R.live hb hcne
  have hnU:∀ o,¬ U (μ id) o:=by
   intro o hu
   have h1:=R.ul _ _ hu
   rcases (R.ow (μ id) (by rw [e0]; simp)).1 with h | h
   ·omega
   ·exact h1.2 h
  have F:Fr (env U σ w ω μ) (env U { σ with b:=yT σ.b id } w (upd ω (μ id) .no) μ):=by
   refine ⟨fun k o u h1 h2=>⟨?_,h2⟩,fun id' L hL=>⟨?_,rfl,Nat.le_refl _⟩⟩
   ·have h1:¬ wr U ω k o:=h1
    show ¬ wr U (upd ω (μ id) .no) k o
    unfold wr at h1 ⊢
    by_cases hk:k=μ id
    ·subst hk; rw [yH]; simp only [not_or] at h1 ⊢; exact ⟨h1.1,fun h=>h⟩
    ·rw [xv _ _ hk]; exact h1
   ·have hL:yz σ.b id'=some L:=hL
    show yz (yT σ.b id) id'=some L
    rw [hf]
    unfold yz at hL ⊢
    by_cases hne:id'=id
    ·subst hne
     rw [List.getElem?_set_self hlt]
     rw [hb] at hL
     exact hL
    ·rw [List.getElem?_set_ne (fun e=>hne e.symm)]; exact hL
  have hgs:∀ (l:Loc) β h,ω β=.gs l h→upd ω (μ id) .no β=.gs l h:=by
   intro l β h e
   rw [xv]
   ·exact e
   ·rintro rfl; rw [e0] at e; cases e
  refine ⟨upd ω (μ id) .no,R.step F rfl (fun t j β h _ e=>⟨hgs _ β h e,rfl⟩) (fun id' p' cs' h' hne'=>?_) (fun id' cs' h'=>?_) (fun id' es' h'=>?_) (Kept.refl No w) (fun k _ h=>znB h) (fun k hk=>?_) (fun k=>Nat.le_refl _),F⟩
  ·simp only at h'
   rw [hf] at h'
   by_cases hne:id'=id
   ·subst hne; rw [List.getElem?_set_self hlt] at h'; cases h'
   ·rw [List.getElem?_set_ne (fun e=>hne e.symm)] at h'
    obtain ⟨q0,_⟩:=R.live h' hne'
    refine .inl ⟨h',?_,rfl,fun j β h e=>⟨hgs _ β h e,rfl⟩⟩
    rw [xv]
    ·exact q0
    ·intro e; rw [e,e0] at q0; cases q0; exact hne rfl
  ·simp only at h'
   rw [hf] at h'
   by_cases hne:id'=id
   ·subst hne
    rw [List.getElem?_set_self hlt] at h'; cases h'
    refine .inr ⟨fun o ho=>?_,arr,T,_,e1,e2,fun j c hc=>?_⟩
    ·unfold wr at ho
     rw [yH] at ho
     rcases ho with ho | ho
     ·exact hnU o ho
     ·exact ho
    ·obtain ⟨u,g1,g2,g3,_⟩:=e3 j c hc
     exact ⟨u,g1,g2,(g3 rfl).mono F.st⟩
   ·rw [List.getElem?_set_ne (fun e=>hne e.symm)] at h'
    obtain ⟨q0,_⟩:=R.fs id' cs' h'
    refine .inl ⟨h',fun o ho=>q0 o ?_,rfl⟩
    unfold wr at ho ⊢
    by_cases hk:μ id'=μ id
    ·rw [hk,yH] at ho
     rcases ho with ho | ho
     ·exact .inl (by rw [hk]; exact ho)
     ·exact ho.elim
    ·rwa [xv _ _ hk] at ho
  ·simp only at h'
   rw [hf] at h'
   by_cases hne:id'=id
   ·subst hne; rw [List.getElem?_set_self hlt] at h'; cases h'
   ·rw [List.getElem?_set_ne (fun e=>hne e.symm)] at h'
    obtain ⟨q0,_⟩:=R.ms id' es' h'
    refine .inl ⟨h',?_,rfl⟩
    rw [xv]
    ·exact q0
    ·intro e; rw [e,e0] at q0; cases q0; exact hne rfl
  ·by_cases hkb:k=μ id
   ·subst hkb; rw [yH] at hk; exact absurd rfl hk
   ·rw [xv _ _ hkb] at hk; exact R.ow k hk
 ·have hf:yT σ.b id=σ.b:=by
   unfold yT
   split
   ·rename_i c cs hb; exact absurd ⟨c::cs,hb,by simp⟩ hl
   ·rfl
  refine ⟨ω,?_,?_⟩
  ·have:({ σ with b:=yT σ.b id }:St)=σ:=by rw [hf]
   rw [this]; exact R
  ·have:({ σ with b:=yT σ.b id }:St)=σ:=by rw [hf]
   rw [this]
   exact ⟨fun k o u h1 h2=>⟨h1,h2⟩,fun id L hL=>⟨hL,rfl,Nat.le_refl _⟩⟩
theorem Fr.trans {E E' E'':En} (F:Fr E E') (G:Fr E' E''):Fr E E'' :=
 ⟨fun k o u h1 h2=>G.st k o u (F.st k o u h1 h2).1 (F.st k o u h1 h2).2,fun id L hL=>by
  obtain ⟨f1,f2,f3⟩:=F.id id L hL
  obtain ⟨g1,g2,g3⟩:=G.id id L f1
  refine ⟨g1,g2.trans f2,?_⟩
  rw [f2] at g3
  exact Nat.le_trans f3 g3⟩
theorem Rel.frozenBy (s0:St):∀ (srcs:List (Src × Nat)) {σ:St} {ω:Nat→Ow},Rel ren we ωe U O σ a w ω μ→∃ ω',Rel ren we ωe U O { σ with b:=yu s0 srcs σ.b } a w ω' μ∧Fr (env U σ w ω μ) (env U { σ with b:=yu s0 srcs σ.b } w ω' μ)
 | [],σ,ω,R=>⟨ω,R,⟨fun k o u h1 h2=>⟨h1,h2⟩,fun id L hL=>⟨hL,rfl,Nat.le_refl _⟩⟩⟩
 | s::srcs,σ,ω,R=>by
  unfold yu
  by_cases hm:2≤s.2
  ·rw [if_pos hm]; exact Rel.frozenBy s0 srcs R
  rw [if_neg hm]
  cases hid:zam (s.1.get s0) with
  | none=>simp only; exact Rel.frozenBy s0 srcs R
  | some id =>
   simp only
   obtain ⟨ω1,R1,F1⟩:=R.freeze id
   obtain ⟨ω2,R2,F2⟩:=Rel.frozenBy s0 srcs R1
   exact ⟨ω2,R2,F1.trans F2⟩
theorem zlq (s0:St):∀ (srcs:List (Src × Nat)) (b:List B) (k:Nat),(yu s0 srcs b)[k]?=b[k]?∨(∃ cs,b[k]?=some (.live true cs)∧(yu s0 srcs b)[k]?=some (.fz cs))
 | [],b,k=>.inl rfl
 | s::srcs,b,k=>by
  unfold yu
  by_cases hm:2≤s.2
  ·rw [if_pos hm]; exact zlq s0 srcs b k
  rw [if_neg hm]
  cases hid:zam (s.1.get s0) with
  | none=>exact zlq s0 srcs b k
  | some id =>
   simp only
   rcases zlq s0 srcs (yT b id) k with h | ⟨cs,h1,h2⟩
   ·rcases zsw b id k with g | ⟨cs,g1,_,_,g2⟩
    ·exact .inl (h.trans g)
    ·exact .inr ⟨cs,g1,h.trans g2⟩
   ·rcases zsw b id k with g | ⟨cs',g1,_,_,g2⟩
    ·exact .inr ⟨cs,g.symm.trans h1,h2⟩
    ·rw [g2] at h1; cases h1
theorem zmp (s0:St):∀ (srcs:List (Src × Nat)) (b:List B) (s:Src × Nat),s ∈ srcs→¬ 2≤s.2→∀ id off len sz,s.1.get s0=.own id off len sz→∀ cs,((b[id]?).getD .gone).cs?=some cs→cs≠[]→(yu s0 srcs b)[id]?=some (.fz cs)
 | [],b,s,hs,hm,id,off,len,sz,h,cs,hc,hne=>by cases hs
 | s'::srcs,b,s,hs,hm,id,off,len,sz,h,cs,hc,hne=>by
  unfold yu
  have hb:b[id]?=some (.live true cs)∨b[id]?=some (.fz cs):=by
   cases hx:b[id]? with
   | none=>simp [hx,B.cs?] at hc
   | some x =>
    cases x with
    | gone=>simp [hx,B.cs?] at hc
    | live p cs' =>
     cases p with
     | false=>simp [hx,B.cs?] at hc
     | true=>simp [hx,B.cs?] at hc; subst hc; exact .inl rfl
    | fz cs'=>simp [hx,B.cs?] at hc; subst hc; exact .inr rfl
    | mp es=>simp [hx,B.cs?] at hc
    | dead n=>simp [hx,B.cs?] at hc
  have done:∀ b',b'[id]?=some (.fz cs)→(yu s0 srcs b')[id]?=some (.fz cs):=by
   intro b' hb'
   rcases zlq s0 srcs b' id with h | ⟨cs',h1,_⟩
   ·exact h.trans hb'
   ·rw [hb'] at h1; cases h1
  rcases List.mem_cons.1 hs with rfl | hs'
  ·rw [if_neg hm,h]
   simp only [zam]
   refine done _ ?_
   rcases hb with hb | hb
   ·rw [zvJ hb hne]; exact List.getElem?_set_self (List.getElem?_eq_some_iff.1 hb).1
   ·unfold yT; rw [hb]; exact hb
  ·by_cases hm':2≤s'.2
   ·rw [if_pos hm']; exact zmp s0 srcs b s hs' hm id off len sz h cs hc hne
   rw [if_neg hm']
   cases hid:zam (s'.1.get s0) with
   | none=>exact zmp s0 srcs b s hs' hm id off len sz h cs hc hne
   | some id' =>
    simp only
    refine zmp s0 srcs (yT b id') s hs' hm id off len sz h cs ?_ hne
    rcases zsw b id' id with g | ⟨cs',g1,_,_,g2⟩
    ·rw [g]; exact hc
    ·rw [g2]
     rw [g1] at hc
     exact hc
def zC0 (v:V):Prop:=(∃ id off,v=.ptr id off)∨(∃ n cs,v=.fp n cs)∨(∃ f caps,v=.fn f caps)∨(∃ id,v=.mp id)∨(∃ id off len sz,v=.own id off len sz)∨(∃ sz,v=.fr sz [])∨(∃ cs,v=.st cs)
theorem zBK {s:Src × Nat} {v:V} (h:zpA s=some v):∃ sz,s.1=.const (.gs sz [])∧v=.fr sz []:=by
 unfold zpA at h
 split at h
 ·rename_i sz e
  split at h
  ·cases h; exact ⟨sz,e,rfl⟩
  ·cases h
 ·cases h
theorem zFS {x:Operand} {ty:TypeId} {sz:Nat} (hx:xt P ren ty x=some (.const (.gs sz []))):∃ A,a.eval x=.slice A 0 0:=by
 cases x with
 | tmp t=>simp [xt] at hx
 | func f=>simp [xt] at hx
 | global g=>simp [xt] at hx
 | const c =>
  simp only [xt,Option.map_eq_some_iff,Src.const.injEq,exists_eq_right] at hx
  unfold zrV at hx
  split at hx <;> first | (cases hx; done) | skip
  exact ⟨none,rfl⟩
theorem zDr (R:Rel ren we ωe U O σ a w ω μ) {srcs:List (Src × Nat)} {ω1:Nat→Ow} (R1:Rel ren we ωe U O { σ with b:=yu σ srcs σ.b } a w ω1 μ) (F1:Fr (env U σ w ω μ) (env U { σ with b:=yu σ srcs σ.b } w ω1 μ)) {s:Src × Nat} (hs:s ∈ srcs) {x:Operand} {ty:TypeId} (hx:xt P ren ty x=some s.1) {v:V} (hv:zbe σ s=some v) :
  (RepP ren w (wr U ω1) v (a.eval x)∨(∀ l,Rep ren (env U { σ with b:=yu σ srcs σ.b } w ω1 μ) l v (a.eval x)∧zC0 v)):=by
 have hr:=R.opnd hx
 unfold zbe at hv
 cases hnil:zpA s with
 | some v' =>
  rw [hnil] at hv
  cases hv
  right
  intro l
  obtain ⟨sz,e1,rfl⟩:=zBK hnil
  rw [e1] at hx
  obtain ⟨A,eu⟩:=zFS (P:=P) (ren:=ren) (a:=a) hx
  rw [eu]
  exact ⟨.fr0 sz _,.inr (.inr (.inr (.inr (.inr (.inl ⟨sz,rfl⟩)))))⟩
 | none =>
 rw [hnil] at hv
 simp only at hv
 unfold zrw at hv
 cases hlend:zmh s.2 (s.1.get σ) with
 | some v' =>
  rw [hlend] at hv
  cases hv
  unfold zmh at hlend
  split at hlend
  ·split at hlend
   ·rename_i id off len sz hg
    cases hlend
    rw [hg] at hr
    right
    intro l
    exact ⟨Rep.frame0 F1 (fun _=>hr.ownAt.rep _) (by simp) l,.inr (.inr (.inr (.inr (.inl ⟨id,off,len,sz,rfl⟩))))⟩
   ·rename_i cs hg
    cases hlend
    rw [hg] at hr
    right
    intro l
    obtain ⟨us,eu,h1,h2,h3⟩:=hr.st_inv
    exact ⟨Rep.frame0 F1 (fun _=>by rw [eu]; exact .st cs us h1 h2 h3) (by simp) l,.inr (.inr (.inr (.inr (.inr (.inr ⟨cs,rfl⟩)))))⟩
   ·cases hlend
  ·cases hlend
 | none =>
 have hmode:∀ id off len sz,s.1.get σ=.own id off len sz→¬ 2≤s.2:=by
  intro id off len sz hg hm
  rw [hg] at hlend
  simp [zmh,hm] at hlend
 rw [hlend] at hv
 simp only at hv
 cases hg:s.1.get σ with
 | own id off len sz =>
  rw [hg] at hr hv
  simp only [zaW,Option.bind_eq_bind] at hv
  cases hcs:((σ.b[id]?).getD .gone).cs? with
  | none=>simp [hcs] at hv
  | some cs =>
   simp only [hcs,Option.bind_some,Option.pure_def,V.plain,Option.some.injEq] at hv
   subst hv
   left
   obtain ⟨c,L,A,eu,hL,hl,hc,hA⟩:=hr.own_inv
   have hLc:L=cs.length:=by
    have h1:yz σ.b id=some L:=hL
    have:=(R.blk hcs).1
    rw [this] at h1; cases h1; rfl
   subst hLc
   rw [eu]
   by_cases hne:cs=[]
   ·subst hne
    have hnil:∀ (i:Nat) (v:V),¬ (zh sz len (([]:List V).drop off)).flatten[i]?=some v:=by
     intro i v hv
     rw [y9,List.getElem?_take] at hv
     split at hv
     ·simp at hv
     ·cases hv
    have key:=RepP.sl (ren:=ren) (w:=w) (Wr:=wr U ω1) sz (zh sz len (([]:List V).drop off)) A c (fun _=>undef) (by rw [zC]; exact hc.1) (za9 _ _ _ (by simp at hl ⊢; omega)) (μ id) off
     (fun hne=>by
      rcases hA with ⟨h1,_⟩ | ⟨h1,_⟩
      ·exact h1
      ·subst h1; simp [zh] at hne)
     (fun i v hv=>absurd hv (hnil i v)) (fun i v hv=>absurd hv (hnil i v)) (fun i v hv=>absurd hv (hnil i v))
    rw [zC] at key
    exact key
   have hfz:=zmp σ srcs σ.b s hs (hmode _ _ _ _ hg) id off len sz hg cs hcs hne
   obtain ⟨q0,arr,T,fr,q1,q2,q3⟩:=R1.fs id cs hfz
   have key:=RepP.sl (ren:=ren) (w:=w) (Wr:=wr U ω1) sz (zh sz len (cs.drop off)) A c (fun i=>arr.toList.getD (off+i) undef) (by rw [zC]; exact hc.1) (za9 _ _ _ (by simp; omega)) (μ id) off
    (fun hne=>by
     rcases hA with ⟨h1,_⟩ | ⟨h1,_⟩
     ·exact h1
     ·subst h1; simp [zh] at hne)
   have seg:∀ (i:Nat) (v:V),(zh sz len (cs.drop off)).flatten[i]?=some v→∃ u,arr.toList.getD (off+i) undef=u∧arr[off+i]?=some u∧u.oneCell'=true∧RepP ren w (wr U ω1) v u:=by
    intro i v hv
    rw [y9,List.getElem?_take] at hv
    split at hv
    ·rw [List.getElem?_drop] at hv
     obtain ⟨u,g1,g2,g3⟩:=q3 _ _ hv
     have g1':arr.toList[off+i]?=some u:=by simpa using g1
     exact ⟨u,by rw [List.getD_eq_getElem?_getD,g1']; rfl,g1,g2,g3⟩
    ·cases hv
   have key:=key (fun i v hv=>by obtain ⟨u,e,g1,g2,g3⟩:=seg i v hv; exact ⟨q0 _,by rw [cell_of_row _ _ _ _ _ _ q1,e]; exact g1⟩)
    (fun i v hv=>by obtain ⟨u,e,g1,g2,g3⟩:=seg i v hv; rw [e]; exact g2) (fun i v hv=>by obtain ⟨u,e,g1,g2,g3⟩:=seg i v hv; rw [e]; exact g3)
   rw [zC] at key
   exact key
 | ptr id off =>
  rw [hg] at hr hv
  cases hv
  right
  intro l
  obtain ⟨L,hL,eu⟩:=hr.ptr_inv
  exact ⟨Rep.frame0 F1 (fun _=>by rw [eu]; exact .ptr id off L hL) (by simp) l,.inl ⟨id,off,rfl⟩⟩
 | fp n cs =>
  rw [hg] at hr hv
  cases hv
  right
  intro l
  obtain ⟨k,q,f,eu,g1,g2,g3,g4⟩:=hr.fp_inv
  exact ⟨Rep.frame0 F1 (fun _=>by rw [eu]; exact .fp n cs k q f g1 g2 g3 g4) (by simp) l,.inr (.inl ⟨n,cs,rfl⟩)⟩
 | fn g caps =>
  rw [hg] at hr hv
  cases hv
  right
  intro l
  obtain ⟨f,us,eu,g1,g2,g3⟩:=hr.fn_inv
  exact ⟨Rep.frame0 F1 (fun _=>by rw [eu]; exact .fn f g caps us g1 g2 g3) (by simp) l,.inr (.inr (.inl ⟨g,caps,rfl⟩))⟩
 | agg cs =>
  rw [hg] at hr hv
  simp only [zaW] at hv
  cases hv
  left
  have h0:=hr.agg_eq
  obtain ⟨us,eu,hcp⟩:=CellsP.of_agg h0
  have hcp1:=hcp.mono (w':=w) (Wr':=wr U ω1) F1.st
  rw [eu]
  split
  ·exact (ziA hcp1).agg
  ·exact hcp1.agg
 | sc x =>
  rw [hg] at hr hv
  simp only [zaW] at hv
  left
  exact (hr.plain R.hU hv).mono F1.st
 | sl sz es =>
  rw [hg] at hr hv
  simp only [zaW] at hv
  left
  exact (hr.plain R.hU hv).mono F1.st
 | gs sz es =>
  rw [hg] at hr hv
  simp only [zaW] at hv
  left
  have h0:=(hr.plain R.hU (v':=.sl sz es) rfl)
  cases hv
  exact h0.mono F1.st
 | mp id =>
  rw [hg] at hr hv
  cases hv
  right
  intro l
  obtain ⟨L,hL,eu⟩:=hr.mp_inv
  exact ⟨Rep.frame0 F1 (fun _=>by rw [eu]; exact .mp id L hL) (by simp) l,.inr (.inr (.inr (.inl ⟨id,rfl⟩)))⟩
 | tup vs=>rw [hg] at hv; simp [zaW,V.plain] at hv
 | st cs=>rw [hg] at hv; simp [zaW,V.plain] at hv
 | bx p cs=>rw [hg] at hv; simp [zaW,V.plain] at hv
 | fr sz es=>rw [hg] at hv; simp [zaW,V.plain] at hv
 | cut id off len cap sz=>rw [hg] at hv; simp [zaW,V.plain] at hv
 | ub=>rw [hg] at hv; simp [zaW,V.plain] at hv
 | junk=>rw [hg] at hv; simp [zaW,V.plain] at hv
end
section
set_option linter.unusedVariables false
set_option linter.unusedSimpArgs false
variable {ren:Rn} {we:World} {ωe:Nat→Ow} {U:Nat→Nat→Prop} {O:Nat→Prop} {σ:St} {a:Act} {w:World} {ω:Nat→Ow} {μ:Nat→Nat} {P:Program}
theorem zn2 (b:List B):∀ (n:Nat) (todo acc:List Nat),acc.Nodup→(zei b n todo acc).Nodup
 | 0,_,acc,h=>by simpa [zei] using h
 | n+1,[],acc,h=>by simpa [zei] using h
 | n+1,id::todo,acc,h=>by
  unfold zei
  split
  ·exact zn2 b n todo acc h
  ·rename_i hc
   refine zn2 b n _ _ ?_
   rw [List.nodup_append]
   refine ⟨h,by simp,fun x hx y hy=>?_⟩
   simp at hy; subst hy
   rintro rfl
   exact hc (by simpa using hx)
theorem ziI {ids:List Nat} {id:Nat} (h:id ∈ ids):xM ids id < ids.length∧ids[xM ids id]?=some id:=by
 have h1:xM ids id < ids.length:=List.idxOf_lt_length_of_mem h
 exact ⟨h1,by rw [List.getElem?_eq_getElem h1]; exact congrArg some (List.getElem_idxOf h1)⟩
theorem zir {ids:List Nat} (hn:ids.Nodup) {i id:Nat} (h:ids[i]?=some id):xM ids id=i:=by
 have h1:=ziI (List.mem_of_getElem? h)
 have hi:i < ids.length:=(List.getElem?_eq_some_iff.1 h).1
 have e1:ids[xM ids id]'h1.1=id:=by have:=h1.2; rw [List.getElem?_eq_getElem h1.1] at this; exact Option.some.inj this
 have e2:ids[i]=id:=by rw [List.getElem?_eq_getElem hi] at h; exact Option.some.inj h
 exact (List.getElem_inj hn).1 (e1.trans e2.symm)
theorem zgA {b:List B} {ids:List Nat}:∀ (l:List Nat) (bor:Bor),zek b ids l=some bor→bor.length=l.length∧∀ (i id:Nat),l[i]?=some id→(∃ p cs,b[id]?=some (.live p cs)∧bor[i]?=some (.live p (if p then cs else cs.map (zdn (xM ids))))∧(p=false→∀ c ∈ cs,zbJ ids c=true))∨(∃ es,b[id]?=some (.mp es)∧bor[i]?=some (.mp es))
 | [],bor,h=>by cases h; exact ⟨rfl,by simp⟩
 | id0::l,bor,h=>by
  simp only [zek] at h
  split at h
  ·rename_i cs hb
   simp only [Option.bind_eq_bind,Option.bind_eq_some_iff,Option.pure_def,Option.some.injEq] at h
   obtain ⟨bor',h',rfl⟩:=h
   obtain ⟨e,ih⟩:=zgA l bor' h'
   refine ⟨by simp [e],fun i id hi=>?_⟩
   cases i with
   | zero=>simp at hi; subst hi; exact .inl ⟨true,cs,hb,by simp,by simp⟩
   | succ i=>simp at hi; simpa using ih i id hi
  ·rename_i cs hb
   split at h
   ·rename_i hall
    simp only [Option.bind_eq_bind,Option.bind_eq_some_iff,Option.pure_def,Option.some.injEq] at h
    obtain ⟨bor',h',rfl⟩:=h
    obtain ⟨e,ih⟩:=zgA l bor' h'
    refine ⟨by simp [e],fun i id hi=>?_⟩
    cases i with
    | zero=>simp at hi; subst hi; exact .inl ⟨false,cs,hb,by simp,fun _ c hc=>List.all_eq_true.1 hall c hc⟩
    | succ i=>simp at hi; simpa using ih i id hi
   ·cases h
  ·rename_i es hb
   simp only [Option.bind_eq_bind,Option.bind_eq_some_iff,Option.pure_def,Option.some.injEq] at h
   obtain ⟨bor',h',rfl⟩:=h
   obtain ⟨e,ih⟩:=zgA l bor' h'
   refine ⟨by simp [e],fun i id hi=>?_⟩
   cases i with
   | zero=>simp at hi; subst hi; exact .inr ⟨es,hb,by simp⟩
   | succ i=>simp at hi; simpa using ih i id hi
  ·cases h
theorem OwnAt.move {E E':En} {v:V} {u:Value} (h:OwnAt E v u) (g:Nat→Nat) (hid:∀ id,zam v=some id→∀ L,E.bl id=some L→E'.bl (g id)=some L∧E'.μ (g id)=E.μ id) (hrs:∀ k,yE E.w k≤yE E'.w k):OwnAt E' (zAW g v) u:=by
 obtain ⟨id,off,len,sz,c,L,A,rfl,rfl,hL,hl,hc,hz,hA⟩:=h
 obtain ⟨q1,q2⟩:=hid id rfl L hL
 refine ⟨g id,off,len,sz,c,L,A,rfl,rfl,q1,hl,hc,hz,?_⟩
 rcases hA with ⟨e,he⟩ | h
 ·exact .inl ⟨by rw [q2]; exact e,by rw [q2]; exact Nat.le_trans he (hrs _)⟩
 ·exact .inr h
theorem RepP.renOwn_same {w:World} {Wr:Nat→Nat→Prop} {v:V} {u:Value} (h:RepP ren w Wr v u) (g:Nat→Nat):zAW g v=v:=by
 cases h <;> rfl
theorem Rep.moveSt {E E':En} {l l':Loc} {cs:List V} {u:Value} (h:Rep ren E l (.st cs) u) (st:∀ k o u,¬ E.Wr k o→E.w.cell? ⟨k,o,none⟩=some u→¬ E'.Wr k o∧E'.w.cell? ⟨k,o,none⟩=some u) (g:Nat→Nat)
  (hid:∀ id ∈ xG (.st cs),∀ L,E.bl id=some L→E'.bl (g id)=some L∧E'.μ (g id)=E.μ id) (hrs:∀ k,yE E.w k≤yE E'.w k):Rep ren E' l' (zdn g (.st cs)) u:=by
 obtain ⟨us,rfl,hl,h,h1⟩:=h.st_inv
 refine .st _ us (by simpa using hl) (fun i c u hc hu=>?_) h1
 rw [List.getElem?_map] at hc
 cases hci:cs[i]? with
 | none=>simp [hci] at hc
 | some c0 =>
  simp [hci] at hc; subst hc
  rcases h i c0 u hci hu with q | q
  ·left; rw [q.renOwn_same]; exact q.mono st
  ·right
   exact q.move g (fun id e=>hid id (by simp only [xG,List.mem_filterMap]; exact ⟨c0,List.mem_of_getElem? hci,e⟩)) hrs
theorem Rep.move {E E':En} {l l':Loc} {v:V} {u:Value} (h:Rep ren E l v u) (st:∀ k o u,¬ E.Wr k o→E.w.cell? ⟨k,o,none⟩=some u→¬ E'.Wr k o∧E'.w.cell? ⟨k,o,none⟩=some u) (g:Nat→Nat)
  (hid:∀ id ∈ xG v,∀ L,E.bl id=some L→E'.bl (g id)=some L∧E'.μ (g id)=E.μ id) (hg:∀ β h,E.ω β=.gs l h→E'.ω β=.gs l' h∧E'.w.heap[β]?=E.w.heap[β]?) (hrs:∀ k,yE E.w k≤yE E'.w k) (htup:∀ x xs,v≠.tup (x::xs)):Rep ren E' l' (zdn g v) u:=by
 cases h with
 | pure h =>
  have h':=h.mono (w':=E'.w) (Wr':=E'.Wr) st
  cases h with
  | fn f g' hr=>exact .pure (.fn f g' hr)
  | sc _ _=>exact .pure h'
  | agg _ _ _ _ _=>exact .pure h'
  | sl _ _ _ _ _ _ _ _ _ _ _ _ _=>exact .pure h'
  | nil _ _=>exact .pure h'
 | gs sz es β c arr T f hω hb hc hn hsz hcell h1 h =>
  obtain ⟨g1,g2⟩:=hg _ _ hω
  exact .gs sz es β c arr T f g1 (by rw [g2]; exact hb) hc hn hsz hcell h1 (fun i v hv=>(h i v hv).mono st)
 | fr sz es β c arr T f hω hb hc hn hsz hcell h1 h =>
  obtain ⟨g1,g2⟩:=hg _ _ hω
  exact .fr sz es β c arr T f g1 (by rw [g2]; exact hb) hc hn hsz hcell h1 (fun i v hv=>(h i v hv).mono st)
 | fr0 sz A=>exact .fr0 sz A
 | ub b=>exact .ub b
 | mp id L hL =>
  obtain ⟨q1,q2⟩:=hid id (by simp [xG]) L hL
  rw [← q2]
  exact .mp (g id) L q1
 | bx p cs β arr T f hω hb hn hcell h1 h =>
  obtain ⟨g1,g2⟩:=hg _ _ hω
  exact .bx p cs β arr T f g1 (by rw [g2]; exact hb) hn hcell h1 (fun i v hv=>(h i v hv).mono st)
 | own id off len sz c L A hL hl hc hA =>
  exact (OwnAt.move ⟨id,off,len,sz,c,L,A,rfl,rfl,hL,hl,hc.1,hc.2,hA⟩ g (fun id' e=>by cases e; exact hid id (by simp [xG])) hrs).rep _
 | cut id off len cap sz c L A hL hl hc hA =>
  obtain ⟨q1,q2⟩:=hid id (by simp [xG]) L hL
  refine .cut (g id) off len cap sz c L A q1 hl hc ?_
  rcases hA with ⟨e,he⟩ | h
  ·exact .inl ⟨by rw [q2]; exact e,by rw [q2]; exact Nat.le_trans he (hrs _)⟩
  ·exact .inr h
 | ptr id off L hL =>
  obtain ⟨q1,q2⟩:=hid id (by simp [xG]) L hL
  rw [← q2]
  exact .ptr (g id) off L q1
 | fp n cs k o f hl hcell h1 h=>exact .fp n cs k o f hl (fun i v hv=>st _ _ _ (hcell i v hv).1 (hcell i v hv).2) h1 (fun i v hv=>(h i v hv).mono st)
 | fn f g' caps us hr hl h =>
  refine .fn f g' _ us hr (by simpa using hl) (fun i c hc=>?_)
  rw [List.getElem?_map] at hc
  cases hci:caps[i]? with
  | none=>simp [hci] at hc
  | some c0 =>
   simp [hci] at hc; subst hc
   obtain ⟨id,off,L,rfl,e2,e3⟩:=h i c0 hci
   obtain ⟨q1,q2⟩:=hid id (by
    simp only [xG,List.mem_filterMap]
    exact ⟨.ptr id off,List.mem_of_getElem? hci,rfl⟩) L e2
   exact ⟨g id,off,L,rfl,q1,by rw [q2]; exact e3⟩
 | tup vs us hl h =>
  cases vs with
  | nil =>
   cases us with
   | nil=>exact .tup [] [] rfl (by simp)
   | cons x xs=>simp at hl
  | cons x xs=>exact absurd rfl (htup x xs)
 | st cs us hl h h1=>exact (Rep.st (l:=l) cs us hl h h1).moveSt st g hid hrs
 | junk=>exact .junk
theorem zCI {v:V} (h:zpQ v=true):∀ x xs,v≠.tup (x::xs):=by
 rintro x xs rfl
 simp [zpQ] at h
theorem zm1 {ids:List Nat} {v:V} (h:zbJ ids v=true):(∀ id ∈ xG v,id ∈ ids)∧(∀ x xs,v≠.tup (x::xs)):=by
 cases v with
 | ptr id off=>simp [zbJ] at h; exact ⟨by simpa [xG] using h,by simp⟩
 | own id off len sz=>simp [zbJ] at h; exact ⟨by simpa [xG] using h,by simp⟩
 | mp id=>simp [zbJ] at h; exact ⟨by simpa [xG] using h,by simp⟩
 | fn f caps =>
  refine ⟨fun id hid=>?_,by simp⟩
  simp only [xG,List.mem_filterMap] at hid
  obtain ⟨c,hc,e⟩:=hid
  simp only [zbJ,List.all_eq_true] at h
  have:=h c hc
  cases c <;> simp at e
  subst e
  simpa using this
 | tup _=>simp [zbJ] at h
 | bx _ _=>simp [zbJ] at h
 | fr _ _=>simp [zbJ] at h
 | cut _ _ _ _ _=>simp [zbJ] at h
 | ub=>simp [zbJ] at h
 | agg _=>simp [zbJ] at h
 | st _=>simp [zbJ] at h
 | _=>exact ⟨by simp [xG],by simp⟩
theorem RepP.renV_same {w:World} {Wr:Nat→Nat→Prop} {v:V} {u:Value} (h:RepP ren w Wr v u) (g:Nat→Nat):zdn g v=v:=by
 cases h <;> rfl
def ωIn (ids:List Nat) (ω:Nat→Ow) (k:Nat):Ow:=match ω k with
 | .blk id=>if ids.contains id then .blk (xM ids id) else .no
 | .gs (.cell id j) h=>if ids.contains id then .gs (.cell (xM ids id) j) h else .no
 | _=>.no
def UIn (U:Nat→Nat→Prop) (ids:List Nat) (ω:Nat→Ow) (k o:Nat):Prop:=wr U ω k o∧ωIn ids ω k=.no
def OIn (ids:List Nat) (ω:Nat→Ow) (k:Nat):Prop:=ωIn ids ω k≠.no
theorem ωIn_no {ids:List Nat} {ω:Nat→Ow} {k:Nat} (h:ωIn ids ω k≠.no):ω k≠.no:=by
 intro e; apply h; simp [ωIn,e]
theorem Rel.noU (R:Rel ren we ωe U O σ a w ω μ) {k:Nat} (h:ω k≠.no) (o:Nat):¬ U k o:=by
 intro hu
 have h1:=R.ul _ _ hu
 rcases (R.ow k h).1 with h | h
 ·omega
 ·exact h1.2 h
theorem Rel.wrIn (R:Rel ren we ωe U O σ a w ω μ) (ids:List Nat) (k o:Nat):wr (UIn U ids ω) (ωIn ids ω) k o↔wr U ω k o:=by
 have no:ωIn ids ω k=.no→(wr (UIn U ids ω) (ωIn ids ω) k o↔wr U ω k o):=by
  intro e
  constructor
  ·intro h
   rcases h with h | h
   ·exact h.1
   ·rw [e] at h; exact h.elim
  ·intro h; exact .inl ⟨h,e⟩
 cases hω:ω k with
 | no=>exact no (by unfold ωIn; rw [hω])
 | blk id =>
  by_cases hc:ids.contains id=true
  ·have e:ωIn ids ω k=.blk (xM ids id):=by unfold ωIn; rw [hω]; simp only [hc,if_true]
   exact ⟨fun _=>.inr (by rw [hω]; trivial),fun _=>.inr (by rw [e]; trivial)⟩
  ·exact no (by unfold ωIn; rw [hω]; simp only [hc,if_false,Bool.false_eq_true])
 | gs l hh =>
  cases l with
  | slot t j=>exact no (by unfold ωIn; rw [hω])
  | cell id j =>
   by_cases hc:ids.contains id=true
   ·have e:ωIn ids ω k=.gs (.cell (xM ids id) j) hh:=by unfold ωIn; rw [hω]; simp only [hc,if_true]
    have hu:=R.noU (k:=k) (by rw [hω]; simp) o
    constructor
    ·intro h
     rcases h with h | h
     ·exact h.1
     ·rw [e] at h; exact .inr (by rw [hω]; exact h)
    ·intro h
     rcases h with h | h
     ·exact absurd h hu
     ·rw [hω] at h; exact .inr (by rw [e]; exact h)
   ·exact no (by unfold ωIn; rw [hω]; simp only [hc,if_false,Bool.false_eq_true])
theorem Rel.wrIn_eq (R:Rel ren we ωe U O σ a w ω μ) (ids:List Nat):wr (UIn U ids ω) (ωIn ids ω)=wr U ω:=by
 funext k o; exact propext (R.wrIn ids k o)
theorem zF3 {E:En} {sz:Nat} {u:Value} (h:∀ l,Rep ren E l (.fr sz []) u):∃ A,u=.slice A 0 0:=by
 have h1:=h (.slot 0 0)
 have h2:=h (.slot 1 0)
 cases h1 with
 | pure h=>cases h
 | fr0 _ A=>exact ⟨A,rfl⟩
 | fr _ _ β c arr T f hω hb hc hn hsz hcell h1' hh =>
  cases h2 with
  | pure h=>cases h
  | fr _ _ β' c' arr' T' f' hω' hb' hc' hn' hsz' hcell' h1'' hh' =>
   rw [hω] at hω'; cases hω'
  | fr0 _ A=>exact ⟨_,rfl⟩
theorem Rel.enterRel (R:Rel ren we ωe U O σ a w ω μ) {ids:List Nat} (hn:ids.Nodup) {bor:Bor} (hl:zek σ.b ids ids=some bor) {args:List V} {us:List Value} (hlen:args.length=us.length)
  (hargs:∀ (i:Nat) (v:V) (u:Value),args[i]?=some v→us[i]?=some u→RepP ren w (wr U ω) v u∨(∀ l,Rep ren (env U σ w ω μ) l v u∧zC0 v))
  (hrefs:args.all (fun a=>(xG a).all ids.contains)=true) :
  Rel ren w (ωIn ids ω) (UIn U ids ω) (OIn ids ω) ⟨args.map (zdn (xM ids)),bor.map toB⟩ ⟨us.toArray,[]⟩ w (ωIn ids ω) (fun i=>μ (ids.getD i 0)):=by
 obtain ⟨hbl,hbor⟩:=zgA ids bor hl
 have hw:=R.wrIn_eq ids
 have hidT:∀ id ∈ ids,∀ L,yz σ.b id=some L→yz (bor.map toB) (xM ids id)=some L∧μ (ids.getD (xM ids id) 0)=μ id:=by
  intro id hid L hL
  obtain ⟨h1,h2⟩:=ziI hid
  refine ⟨?_,by rw [List.getD_eq_getElem?_getD,h2]; rfl⟩
  rcases hbor _ _ h2 with ⟨p,cs,g1,g2,_⟩ | ⟨es,g1,g2⟩
  ·simp only [yz,g1,Option.some.injEq] at hL
   simp only [yz,List.getElem?_map,g2,Option.map_some,toB]
   cases p <;> simp [hL]
  ·simp only [yz,g1,Option.some.injEq] at hL
   simp only [yz,List.getElem?_map,g2,Option.map_some,toB,hL]
 have hst:∀ k o u,¬ wr U ω k o→w.cell? ⟨k,o,none⟩=some u→¬ wr (UIn U ids ω) (ωIn ids ω) k o∧w.cell? ⟨k,o,none⟩=some u:=by
  intro k o u h1 h2; rw [hw]; exact ⟨h1,h2⟩
 refine ⟨rfl,by simp [hlen],fun i v hi=>?_,fun i p cs hb=>?_,fun i cs hb=>?_,fun i es hb=>?_,Kept.refl _ w,fun k hk=>⟨.inr hk,(R.ow k (ωIn_no hk)).2⟩,fun k o hu=>?_,fun k o u h1 h2=>⟨h1,h2⟩,fun k=>Nat.le_refl _,by rw [hw]; exact R.gvn⟩
 ·simp only [List.getElem?_map] at hi
  cases hai:args[i]? with
  | none=>simp [hai] at hi
  | some v0 =>
   simp [hai] at hi; subst hi
   have hlt:i < us.length:=by rw [← hlen]; exact (List.getElem?_eq_some_iff.1 hai).1
   have hu:us[i]?=some us[i]:=List.getElem?_eq_getElem hlt
   have hgd:us.toArray.getD i undef=us[i]:=by simp [hlt]
   show Rep ren _ _ _ (us.toArray.getD i undef)
   rw [hgd]
   have hr0:=List.all_eq_true.1 hrefs v0 (List.mem_of_getElem? hai)
   have hrf:∀ id ∈ xG v0,id ∈ ids:=fun id hid=>by have:=List.all_eq_true.1 hr0 id hid; simpa using this
   rcases hargs i v0 us[i] hai hu with h | h
   ·rw [h.renV_same]
    exact .pure (h.mono hst)
   ·have h0:=h (.slot i 0)
    rcases h0.2 with ⟨id,off,rfl⟩ | ⟨n,cs,rfl⟩ | ⟨f,caps,rfl⟩ | ⟨id,rfl⟩ | hform
    ·obtain ⟨L,hL,e⟩:=h0.1.ptr_inv
     obtain ⟨q1,q2⟩:=hidT id (hrf id (by simp [xG])) L hL
     have:Rep ren (env (UIn U ids ω) ⟨args.map (zdn (xM ids)),bor.map toB⟩ w (ωIn ids ω) (fun i=>μ (ids.getD i 0))) (.slot i 0) (.ptr (xM ids id) off) (.pointer (some ⟨μ (ids.getD (xM ids id) 0),off,none⟩)):=.ptr _ off L q1
     rw [q2] at this
     rw [e]; exact this
    ·obtain ⟨k,q,f,e,g1,g2,g3,g4⟩:=h0.1.fp_inv
     rw [e]
     exact .fp n cs k q f g1 (fun i v hv=>hst _ _ _ (g2 i v hv).1 (g2 i v hv).2) g3 (fun i v hv=>(g4 i v hv).mono hst)
    ·obtain ⟨f',us',e,g1,g2,g3⟩:=h0.1.fn_inv
     rw [e]
     refine .fn f' f _ us' g1 (by simpa using g2) (fun j c hc=>?_)
     rw [List.getElem?_map] at hc
     cases hcj:caps[j]? with
     | none=>simp [hcj] at hc
     | some c0 =>
      simp [hcj] at hc; subst hc
      obtain ⟨id,off,L,rfl,e2,e3⟩:=g3 j c0 hcj
      obtain ⟨q1,q2⟩:=hidT id (hrf id (by simp only [xG,List.mem_filterMap]; exact ⟨.ptr id off,List.mem_of_getElem? hcj,rfl⟩)) L e2
      refine ⟨xM ids id,off,L,rfl,q1,?_⟩
      show us'[j]?=some (.pointer (some ⟨μ (ids.getD (xM ids id) 0),off,none⟩))
      rw [q2]; exact e3
    ·obtain ⟨L,hL,e⟩:=h0.1.mp_inv
     obtain ⟨q1,q2⟩:=hidT id (hrf id (by simp [xG])) L hL
     have:Rep ren (env (UIn U ids ω) ⟨args.map (zdn (xM ids)),bor.map toB⟩ w (ωIn ids ω) (fun i=>μ (ids.getD i 0))) (.slot i 0) (.mp (xM ids id)) (.map (some (μ (ids.getD (xM ids id) 0)))):=.mp _ L q1
     rw [q2] at this
     rw [e]; exact this
    ·have hst':∀ k o u,¬ (env U σ w ω μ).Wr k o→(env U σ w ω μ).w.cell? ⟨k,o,none⟩=some u→¬ (env (UIn U ids ω) ⟨args.map (zdn (xM ids)),bor.map toB⟩ w (ωIn ids ω) (fun i=>μ (ids.getD i 0))).Wr k o∧(env (UIn U ids ω) ⟨args.map (zdn (xM ids)),bor.map toB⟩ w (ωIn ids ω) (fun i=>μ (ids.getD i 0))).w.cell? ⟨k,o,none⟩=some u:=hst
     rcases hform with ⟨id,off,len,sz,rfl⟩ | ⟨sz,rfl⟩ | ⟨cs,rfl⟩
     ·exact (h0.1.ownAt.move (E':=env (UIn U ids ω) ⟨args.map (zdn (xM ids)),bor.map toB⟩ w (ωIn ids ω) (fun i=>μ (ids.getD i 0))) (xM ids) (fun id' e L hL=>by cases e; exact hidT id (hrf id (by simp [xG])) L hL) (fun k=>Nat.le_refl _)).rep _
     ·obtain ⟨A,e⟩:=zF3 (fun l=>(h l).1)
      rw [e]; exact .fr0 sz A
     ·exact h0.1.moveSt hst' (xM ids) (fun id hid L hL=>hidT id (hrf id hid) L hL) (fun k=>Nat.le_refl _)
 ·simp only [List.getElem?_map] at hb
  cases hbi:bor[i]? with
  | none=>simp [hbi] at hb
  | some x =>
   have hi:i < ids.length:=by rw [← hbl]; exact (List.getElem?_eq_some_iff.1 hbi).1
   have hii:ids[i]?=some ids[i]:=List.getElem?_eq_getElem hi
   simp [hbi,toB] at hb
   subst hb
   obtain ⟨p',cs',g1,g2,g3⟩:∃ p' cs',σ.b[ids[i]]?=some (.live p' cs')∧bor[i]?=some (.live p' (if p' then cs' else cs'.map (zdn (xM ids))))∧(p'=false→∀ c ∈ cs',zbJ ids c=true):=by
    rcases hbor i _ hii with h | ⟨es,g1,g2⟩
    ·exact h
    ·rw [hbi] at g2; cases g2
   rw [hbi] at g2; cases g2
   have hmu:μ (ids.getD i 0)=μ ids[i]:=by rw [List.getD_eq_getElem?_getD,hii]; rfl
   refine zui fun hne=>?_
   have hne':cs'≠[]:=by rintro rfl; cases p <;> simp at hne
   obtain ⟨e0,arr,T,e1,e2,e3⟩:=R.live g1 hne'
   have hmem:ids.contains ids[i]=true:=by simp
   refine ⟨?_,arr,T,by rw [hmu]; exact e1,by cases p <;> simp [e2],fun j c hc=>?_⟩
   ·rw [hmu]; unfold ωIn; rw [e0]; simp only [hmem,if_true]; rw [zir hn hii]
   ·cases p with
    | true =>
     simp at hc
     obtain ⟨u,q1,q2,q3,q4⟩:=e3 j c hc
     exact ⟨u,q1,q2,fun _=>(q3 rfl).mono hst,.pure ((q3 rfl).mono hst)⟩
    | false =>
     simp only [Bool.false_eq_true,if_false,List.getElem?_map] at hc
     cases hcj:cs'[j]? with
     | none=>simp [hcj] at hc
     | some c0 =>
      simp [hcj] at hc; subst hc
      obtain ⟨u,q1,q2,q3,q4⟩:=e3 j c0 hcj
      obtain ⟨f1,f3⟩:=zm1 (g3 rfl c0 (List.mem_of_getElem? hcj))
      refine ⟨u,q1,q2,by simp,q4.move (E':=env (UIn U ids ω) ⟨args.map (zdn (xM ids)),bor.map toB⟩ w (ωIn ids ω) (fun i=>μ (ids.getD i 0))) (l':=.cell i j) hst (xM ids) (fun id hid L hL=>hidT id (f1 id hid) L hL) (fun β hh e=>⟨?_,rfl⟩) (fun k=>Nat.le_refl _) f3⟩
      have e:ω β=.gs (.cell ids[i] j) hh:=e
      show ωIn ids ω β=_
      unfold ωIn
      rw [e]
      simp only [hmem,if_true]
      rw [zir hn hii]
 ·simp only [List.getElem?_map] at hb
  cases hbi:bor[i]? with
  | none=>simp [hbi] at hb
  | some x =>
   have hi:i < ids.length:=by rw [← hbl]; exact (List.getElem?_eq_some_iff.1 hbi).1
   have hii:ids[i]?=some ids[i]:=List.getElem?_eq_getElem hi
   simp [hbi,toB] at hb
   subst hb
   rcases hbor i _ hii with ⟨_,_,_,g2,_⟩ | ⟨_,_,g2⟩ <;> (rw [hbi] at g2; cases g2)
 ·simp only [List.getElem?_map] at hb
  cases hbi:bor[i]? with
  | none=>simp [hbi] at hb
  | some x =>
   have hi:i < ids.length:=by rw [← hbl]; exact (List.getElem?_eq_some_iff.1 hbi).1
   have hii:ids[i]?=some ids[i]:=List.getElem?_eq_getElem hi
   simp [hbi,toB] at hb
   subst hb
   obtain ⟨es',g1,g2⟩:∃ es',σ.b[ids[i]]?=some (.mp es')∧bor[i]?=some (.mp es'):=by
    rcases hbor i _ hii with ⟨_,_,_,g2,_⟩ | h
    ·rw [hbi] at g2; cases g2
    ·exact h
   rw [hbi] at g2; cases g2
   have hmu:μ (ids.getD i 0)=μ ids[i]:=by rw [List.getD_eq_getElem?_getD,hii]; rfl
   obtain ⟨e0,arr,clock,e1,e2⟩:=R.ms ids[i] _ g1
   have hmem:ids.contains ids[i]=true:=by simp
   refine ⟨?_,arr,clock,by rw [hmu]; exact e1,e2.mono hst⟩
   rw [hmu]; unfold ωIn; rw [e0]; simp only [hmem,if_true]; rw [zir hn hii]
 ·refine ⟨?_,fun ho=>ho hu.2⟩
  rcases hu.1 with h | h
  ·exact Nat.lt_of_lt_of_le (R.ul _ _ h).1 R.kp.size
  ·exact (R.ow k (by intro e; rw [e] at h; exact h)).2
end
section
set_option linter.unusedVariables false
set_option linter.unusedSimpArgs false
variable {ren:Rn} {we:World} {ωe:Nat→Ow} {U:Nat→Nat→Prop} {O:Nat→Prop} {σ:St} {a:Act} {w:World} {ω:Nat→Ow} {μ:Nat→Nat} {P:Program}
theorem zmP (g:Nat→Nat):∀ (ids:List Nat) (bor:Bor) (b:List B) (id:Nat),id ∉ ids→(zal g ids bor b)[id]?=b[id]?
 | [],bor,b,id,h=>by cases bor <;> rfl
 | i0::ids,[],b,id,h=>rfl
 | i0::ids,x::bor,b,id,h=>by
  unfold zal
  rw [zmP g ids bor _ id (fun hm=>h (by simp [hm]))]
  exact List.getElem?_set_ne (fun e=>h (by simp [e]))
theorem znt (g:Nat→Nat):∀ (ids:List Nat) (bor:Bor) (b:List B) (i id:Nat) (x:B),ids.Nodup→ids[i]?=some id→bor[i]?=some x→id < b.length→(zal g ids bor b)[id]?=some (x.ren g)
 | [],bor,b,i,id,x,hn,h1,h2,h3=>by simp at h1
 | i0::ids,[],b,i,id,x,hn,h1,h2,h3=>by simp at h2
 | i0::ids,x0::bor,b,i,id,x,hn,h1,h2,h3=>by
  unfold zal
  rw [List.nodup_cons] at hn
  cases i with
  | zero =>
   simp at h1 h2
   subst h2
   subst h1
   rw [zmP g ids bor _ _ hn.1]
   exact List.getElem?_set_self h3
  | succ i=>exact znt g ids bor _ i id x hn.2 (by simpa using h1) (by simpa using h2) (by simpa using h3)
def zr8 (ids:List Nat) (T:Nat):Ow→Ow
 | .blk i=>if i < ids.length then .blk (ids.getD i 0) else .no
 | .gs (.cell i j) h=>if i < ids.length then .gs (.cell (ids.getD i 0) j) h else .no
 | .gs (.slot 0 j) h=>.gs (.slot T j) h
 | _=>.no
def ωOut (ids ids':List Nat) (T:Nat) (w:World) (ω ω':Nat→Ow) (k:Nat):Ow :=
 if k < w.heap.size then match ωIn ids ω k with | .no=>ω k | _=>zr8 ids' T (ω' k) else zr8 ids' T (ω' k)
def owr:Ow→Nat→Prop
 | .no,_=>False
 | .gs _ h,o=>h≤o
 | .blk _,_=>True
theorem zpg (U:Nat→Nat→Prop) (ω:Nat→Ow) (k o:Nat):wr U ω k o↔U k o∨owr (ω k) o:=by
 unfold wr owr
 cases ω k <;> exact Iff.rfl
theorem zBT {ids:List Nat} {T:Nat} {x:Ow} {o:Nat} (h:owr (zr8 ids T x) o):owr x o:=by
 cases x with
 | no=>exact h
 | blk i=>trivial
 | gs l hh =>
  cases l with
  | slot t j =>
   cases t with
   | zero=>exact h
   | succ t=>exact h.elim
  | cell i j =>
   simp only [zr8] at h
   by_cases hi:i < ids.length
   ·simp only [hi,if_true] at h; exact h
   ·simp only [hi,if_false] at h; exact h.elim
theorem ωOut_cases (ids ids':List Nat) (T:Nat) (w:World) (ω ω':Nat→Ow) (k:Nat):(k < w.heap.size∧ωIn ids ω k=.no∧ωOut ids ids' T w ω ω' k=ω k)∨((w.heap.size≤k∨ωIn ids ω k≠.no)∧ωOut ids ids' T w ω ω' k=zr8 ids' T (ω' k)):=by
 unfold ωOut
 by_cases hk:k < w.heap.size
 ·rw [if_pos hk]
  cases h:ωIn ids ω k with
  | no=>exact .inl ⟨hk,rfl,rfl⟩
  | blk i=>exact .inr ⟨.inr (by simp),rfl⟩
  | gs l hh=>exact .inr ⟨.inr (by simp),rfl⟩
 ·rw [if_neg hk]; exact .inr ⟨.inl (by omega),rfl⟩
theorem zsU:∀ {l m:Bor},zhh l m=true→∀ (i:Nat) (x y:B),l[i]?=some x→m[i]?=some y→x.isMp=y.isMp
 | [],[],_,i,x,y,hx,_=>by simp at hx
 | [],_::_,h,_,_,_,_,_=>by simp [zhh] at h
 | _::_,[],h,_,_,_,_,_=>by simp [zhh] at h
 | a::l,b::m,h,i,x,y,hx,hy=>by
  simp only [zhh,Bool.and_eq_true,beq_iff_eq] at h
  cases i with
  | zero=>simp at hx hy; subst hx; subst hy; exact h.1
  | succ i=>exact zsU h.2 i x y (by simpa using hx) (by simpa using hy)
theorem zwD {r:V} (h:∀ vs,r≠.tup vs):(∀ g,zlo g r=zdn g r)∧zxb r=zpQ r∧zid r=xG r:=by
 cases r <;> first | exact ⟨fun _=>rfl,rfl,rfl⟩ | exact absurd rfl (h _)
theorem Rel.leave (R:Rel ren we ωe U O σ a w ω μ) {ids xs:List Nat} (hn:(ids++xs).Nodup) (hxs:∀ x ∈ xs,σ.b[x]?=some .gone) {bor bor':Bor} (hl:zek σ.b ids ids=some bor) {r:V} {u:Value} {w':World} {ω':Nat→Ow} {μ':Nat→Nat}
  (Rc:Rel ren w (ωIn ids ω) (UIn U ids ω) (OIn ids ω) ⟨[r],bor'.map toB⟩ ⟨#[u],[]⟩ w' ω' μ') (hμ:∀ k,k < bor.length→μ' k=μ (ids.getD k 0)) (hlen:(bor'.take ids.length).map B.len=bor.map B.len) (hlen':bor'.length=(ids++xs).length)
  (hlend:bor'.all (B.lend (List.range (ids++xs).length))=true) (hr:zxb r=true) (hrr:(zid r).all (fun k=>decide (k < (ids++xs).length))=true) (hkind:zhh (bor'.take ids.length) bor=true) (hrow:(bor'.drop ids.length).all B.isRow=true) :
  ∃ ω2 μ2,Rel ren we ωe U O { σ with b:=zal (fun k=>(ids++xs).getD k 0) (ids++xs) bor' σ.b } a w' ω2 μ2∧Rep ren (env U { σ with b:=zal (fun k=>(ids++xs).getD k 0) (ids++xs) bor' σ.b } w' ω2 μ2) (.slot σ.t.length 0) (zlo (fun k=>(ids++xs).getD k 0) r) u∧∀ k,k ∉ xs→μ2 k=μ k:=by
 obtain ⟨hbl,hbor⟩:=zgA ids bor hl
 have hw:=R.wrIn_eq ids
 obtain ⟨ids',hids'⟩:∃ ids',ids'=ids++xs:=⟨_,rfl⟩
 rw [← hids'] at hn hlen' hlend hrr ⊢
 have hidsl:ids.length≤ids'.length:=by rw [hids']; simp
 have hat1:∀ i,i < ids.length→ids'[i]?=ids[i]?:=fun i hi=>by rw [hids',List.getElem?_append_left hi]
 have hat2:∀ i,ids.length≤i→ids'[i]?=xs[i - ids.length]?:=fun i hi=>by rw [hids',List.getElem?_append_right hi]
 have hgetD:∀ i id,ids'[i]?=some id→ids'.getD i 0=id:=fun i id h=>by rw [List.getD_eq_getElem?_getD,h]; rfl
 obtain ⟨μ2,hμ2⟩:∃ μ2:Nat→Nat,μ2=fun id=>if xs.contains id then μ' (xM ids' id) else μ id:=⟨_,rfl⟩
 have hμno:∀ k,k ∉ xs→μ2 k=μ k:=by
  intro k hk
  have:xs.contains k=false:=by simpa using hk
  rw [hμ2]; simp only [this,Bool.false_eq_true,if_false]
 have hnx:∀ id,id ∈ ids→id ∉ xs:=by
  intro id h1 h2
  rw [hids',List.nodup_append] at hn
  exact hn.2.2 id h1 id h2 rfl
 have hμat:∀ i id,ids'[i]?=some id→μ2 id=μ' i:=by
  intro i id h
  by_cases hi:i < ids.length
  ·have h1:ids[i]?=some id:=by rw [← hat1 i hi]; exact h
   rw [hμno id (hnx id (List.mem_of_getElem? h1)),hμ i (by rw [hbl]; exact hi),List.getD_eq_getElem?_getD,h1]; rfl
  ·have h1:xs[i - ids.length]?=some id:=by rw [← hat2 i (by omega)]; exact h
   have:xs.contains id=true:=by simpa using List.mem_of_getElem? h1
   rw [hμ2]; simp only [this,if_true]
   rw [zir hn h]
 generalize hσ2:({ σ with b:=zal (fun k=>ids'.getD k 0) ids' bor' σ.b }:St)=σ2
 have hσ2b:σ2.b=zal (fun k=>ids'.getD k 0) ids' bor' σ.b:=by rw [← hσ2]
 have hσ2t:σ2.t=σ.t:=by rw [← hσ2]
 have hk2:=zsU hkind
 have hlent:∀ (i id:Nat),ids'[i]?=some id→∃ y,bor'[i]?=some y∧σ2.b[id]?=some (y.ren (fun k=>ids'.getD k 0))∧y.lend (List.range ids'.length)=true ∧
   (σ.b[id]?=some .gone∨(∃ p cs p' cs',σ.b[id]?=some (.live p cs)∧y=.live p' cs'∧cs'.length=cs.length)∨(∃ es es',σ.b[id]?=some (.mp es)∧y=.mp es')∨(∃ p cs,σ.b[id]?=some (.live p cs)∧y=.dead cs.length)):=by
  intro i id hi
  have hib:i < bor'.length:=by rw [hlen']; exact (List.getElem?_eq_some_iff.1 hi).1
  have hbi:bor'[i]?=some bor'[i]:=List.getElem?_eq_getElem hib
  have hy:=List.all_eq_true.1 hlend _ (List.mem_of_getElem? hbi)
  generalize hyy:bor'[i]=y at hbi hy
  by_cases hil:i < ids.length
  ·have hi1:ids[i]?=some id:=by rw [← hat1 i hil]; exact hi
   have hbt:(bor'.take ids.length)[i]?=some y:=by rw [List.getElem?_take,if_pos hil]; exact hbi
   have e1:((bor'.take ids.length).map B.len)[i]?=some y.len:=by rw [List.getElem?_map,hbt]; rfl
   rw [hlen,List.getElem?_map] at e1
   rcases hbor i id hi1 with ⟨p,cs,g1,g2,g3⟩ | ⟨es,g1,g2⟩
   ·refine ⟨y,hbi,?_,hy,?_⟩
    ·rw [hσ2b]; exact znt _ ids' bor' σ.b i id y hn hi hbi (List.getElem?_eq_some_iff.1 g1).1
    ·have hm:=hk2 i _ _ hbt g2
     rw [g2] at e1
     simp only [Option.map_some,Option.some.injEq] at e1
     have e1':cs.length=y.len:=by rw [← e1]; cases p <;> simp [B.len]
     cases y with
     | gone=>simp [B.lend] at hy
     | fz _=>simp [B.lend] at hy
     | mp _=>simp [B.isMp] at hm
     | live p' cs'=>exact .inr (.inl ⟨p,cs,p',cs',g1,rfl,e1'.symm⟩)
     | dead n=>exact .inr (.inr (.inr ⟨p,cs,g1,by rw [e1']; rfl⟩))
   ·refine ⟨y,hbi,?_,hy,?_⟩
    ·rw [hσ2b]; exact znt _ ids' bor' σ.b i id y hn hi hbi (List.getElem?_eq_some_iff.1 g1).1
    ·have hm:=hk2 i _ _ hbt g2
     cases y with
     | gone=>simp [B.lend] at hy
     | fz _=>simp [B.lend] at hy
     | mp es'=>exact .inr (.inr (.inl ⟨es,es',g1,rfl⟩))
     | live p' cs'=>simp [B.isMp] at hm
     | dead n=>simp [B.isMp] at hm
  ·have hi2:xs[i - ids.length]?=some id:=by rw [← hat2 i (by omega)]; exact hi
   have g1:=hxs id (List.mem_of_getElem? hi2)
   refine ⟨y,hbi,?_,hy,.inl g1⟩
   rw [hσ2b]; exact znt _ ids' bor' σ.b i id y hn hi hbi (List.getElem?_eq_some_iff.1 g1).1
 have hother:∀ id,id ∉ ids'→σ2.b[id]?=σ.b[id]?:=fun id h=>by rw [hσ2b]; exact zmP _ _ _ _ _ h
 have hblen:∀ id L,yz σ.b id=some L→yz σ2.b id=some L∧id ∉ xs:=by
  intro id L hL
  have hnotx:id ∉ xs:=by
   intro hx
   simp [yz,hxs id hx] at hL
  refine ⟨?_,hnotx⟩
  by_cases hid:id ∈ ids'
  ·obtain ⟨h1,h2⟩:=ziI hid
   obtain ⟨y,g2,g3,_,g4⟩:=hlent _ _ h2
   rcases g4 with g4 | ⟨p,cs,p',cs',g4,rfl,g5⟩ | ⟨es,es',g4,rfl⟩ | ⟨p,cs,g4,rfl⟩
   ·simp [yz,g4] at hL
   ·simp only [yz,g4,Option.some.injEq] at hL
    unfold yz; rw [g3]
    cases p' <;> simp [B.ren,g5,hL]
   ·simp only [yz,g4,Option.some.injEq] at hL
    unfold yz; rw [g3]
    simp [B.ren,hL]
   ·simp only [yz,g4,Option.some.injEq] at hL
    unfold yz; rw [g3]
    simp [B.ren,hL]
  ·unfold yz at hL ⊢; rw [hother id hid]; exact hL
 have hst:∀ k o x,¬ wr U ω k o→w.cell? ⟨k,o,none⟩=some x→¬ wr U (ωOut ids ids' σ.t.length w ω ω') k o∧w'.cell? ⟨k,o,none⟩=some x:=by
  intro k o x h1 h2
  have h1':¬ wr (UIn U ids ω) (ωIn ids ω) k o:=by rw [hw]; exact h1
  obtain ⟨q1,q2⟩:=Rc.fr k o x h1' h2
  refine ⟨fun hwr=>?_,q2⟩
  rw [zpg] at hwr
  rcases hwr with hu | hh
  ·exact h1 (.inl hu)
  ·rcases ωOut_cases ids ids' σ.t.length w ω ω' k with ⟨_,_,e⟩ | ⟨_,e⟩
   ·rw [e] at hh; exact h1 ((zpg _ _ _ _).2 (.inr hh))
   ·rw [e] at hh; exact q1 ((zpg _ _ _ _).2 (.inr (zBT hh)))
 have F:Fr (env U σ w ω μ) (env U σ2 w' (ωOut ids ids' σ.t.length w ω ω') μ2) :=
  ⟨hst,fun id L hL=>⟨(hblen id L hL).1,hμno id (hblen id L hL).2,Rc.rs _⟩⟩
 have hout:∀ k o x,¬ wr (UIn U ids ω) ω' k o→w'.cell? ⟨k,o,none⟩=some x→¬ wr U (ωOut ids ids' σ.t.length w ω ω') k o∧w'.cell? ⟨k,o,none⟩=some x:=by
  intro k o x h1 h2
  refine ⟨fun hwr=>?_,h2⟩
  rcases ωOut_cases ids ids' σ.t.length w ω ω' k with ⟨hk,hno,e⟩ | ⟨hk,e⟩
  ·unfold wr at hwr
   rw [e] at hwr
   exact h1 (.inl ⟨hwr,hno⟩)
  ·rw [zpg] at hwr
   rcases hwr with hu | hh
   ·have hklt:=(R.ul _ _ hu).1
    rcases hk with hk | hk
    ·have:=R.kp.size; omega
    ·exact R.noU (ωIn_no hk) o hu
   ·rw [e] at hh; exact h1 ((zpg _ _ _ _).2 (.inr (zBT hh)))
 have hgapart:∀ l β h,ω β=.gs l h→ωIn ids ω β=.no→ωOut ids ids' σ.t.length w ω ω' β=.gs l h∧w'.heap[β]?=w.heap[β]?:=by
  intro l β h e hno
  have hlt:=(R.ow β (by rw [e]; simp)).2
  refine ⟨?_,Rc.kp.block β hlt (fun ho=>ho hno)⟩
  rcases ωOut_cases ids ids' σ.t.length w ω ω' β with ⟨_,_,e'⟩ | ⟨hk,_⟩
  ·rw [e']; exact e
  ·rcases hk with hk | hk
   ·omega
   ·exact absurd hno hk
 have hown':∀ k,ω' k≠.no→w.heap.size≤k∨ωIn ids ω k≠.no:=fun k hk=>(Rc.ow k hk).1
 have hback:∀ k x,ω' k=x→x≠.no→ωOut ids ids' σ.t.length w ω ω' k=zr8 ids' σ.t.length x:=by
  intro k x e hx
  rcases ωOut_cases ids ids' σ.t.length w ω ω' k with ⟨h1,h2,_⟩ | ⟨_,e'⟩
  ·rcases hown' k (by rw [e]; exact hx) with h | h
   ·omega
   ·exact absurd h2 h
  ·rw [e',e]
 have hidT:∀ i,i < ids'.length→∀ L,yz (bor'.map toB) i=some L→yz σ2.b (ids'.getD i 0)=some L∧μ2 (ids'.getD i 0)=μ' i:=by
  intro i hil L hL
  have hgi:ids'[i]?=some ids'[i]:=List.getElem?_eq_getElem hil
  obtain ⟨y,r2,r3,_,_⟩:=hlent i _ hgi
  rw [hgetD i _ hgi]
  refine ⟨?_,hμat i _ hgi⟩
  unfold yz at hL ⊢
  rw [List.getElem?_map,r2] at hL
  rw [r3]
  simp only [Option.map_some,toB] at hL
  cases y with
  | gone=>cases hL
  | live p cs=>simp only [Option.some.injEq] at hL; cases p <;> simp [B.ren,hL]
  | fz cs=>simpa [B.ren] using hL
  | mp es=>simpa [B.ren] using hL
  | dead n=>simpa [B.ren] using hL
 have hnotin:∀ id,id ∉ ids'→ids.contains id=false:=by
  intro id h
  have:id ∉ ids:=fun hm=>h (by rw [hids']; simp [hm])
  simpa using this
 refine ⟨ωOut ids ids' σ.t.length w ω ω',μ2,R.step F hσ2t (fun t j β h ht e=>hgapart _ β h e (by unfold ωIn; rw [e])) (fun id p cs hb hne=>?_) (fun id cs hb=>?_) (fun id es hb=>?_) Rc.kp (fun k hk ho=>?_) (fun k hk=>?_) Rc.rs,?_,hμno⟩
 ·by_cases hid:id ∈ ids'
  ·right
   obtain ⟨h1,h2⟩:=ziI hid
   obtain ⟨y0,g2,g3,hal,g4⟩:=hlent _ _ h2
   rw [g3] at hb
   obtain ⟨p',cs',rfl⟩:∃ p' cs',y0=.live p' cs':=by
    cases y0 with
    | live p' cs'=>exact ⟨p',cs',rfl⟩
    | gone=>simp [B.ren] at hb
    | fz _=>simp [B.ren] at hb
    | mp _=>simp [B.ren] at hb
    | dead _=>simp [B.ren] at hb
   simp only [B.ren,Option.some.injEq,B.live.injEq] at hb
   obtain ⟨hbp,hbc⟩:=hb
   subst hbp
   subst hbc
   have hmu:μ2 id=μ' (xM ids' id):=hμat _ _ h2
   have hne':cs'≠[]:=by rintro rfl; cases p' <;> simp at hne
   obtain ⟨e0,arr,T,e1,e2,e3⟩:=Rc.live (id:=xM ids' id) (p:=p') (cs:=cs') (by simp only [List.getElem?_map,g2,Option.map_some]; rfl) hne'
   rw [hmu]
   refine ⟨?_,arr,T,e1,by cases p' <;> simp [e2],fun j c hc=>?_⟩
   ·rw [hback _ _ e0 (by simp)]
    simp only [zr8,h1,if_true]
    rw [hgetD _ _ h2]
   ·cases p' with
    | true =>
     simp at hc
     obtain ⟨x,q1,q2,q3,q4⟩:=e3 j c hc
     exact ⟨x,q1,q2,fun _=>(q3 rfl).mono hout,.pure ((q3 rfl).mono hout)⟩
    | false =>
     simp only [Bool.false_eq_true,if_false,List.getElem?_map] at hc
     cases hcj:cs'[j]? with
     | none=>simp [hcj] at hc
     | some c0 =>
      simp [hcj] at hc; subst hc
      obtain ⟨x,q1,q2,q3,q4⟩:=e3 j c0 hcj
      simp only [B.lend,Bool.false_or] at hal
      obtain ⟨f1,f3⟩:=zm1 (List.all_eq_true.1 hal c0 (List.mem_of_getElem? hcj))
      refine ⟨x,q1,q2,by simp,q4.move (E':=env U σ2 w' (ωOut ids ids' σ.t.length w ω ω') μ2) (l':=.cell id j) hout (fun k=>ids'.getD k 0) (fun i hi L hL=>hidT i (by simpa using f1 i hi) L hL) (fun β hh e=>⟨?_,rfl⟩) (fun k=>Nat.le_refl _) f3⟩
      have e:ω' β=.gs (.cell (xM ids' id) j) hh:=e
      show ωOut ids ids' σ.t.length w ω ω' β=_
      rw [hback _ _ e (by simp)]
      simp only [zr8,h1,if_true]
      rw [hgetD _ _ h2]
  ·left
   rw [hother id hid] at hb
   obtain ⟨e0,arr,T,e1,_⟩:=R.live hb hne
   have hcont:=hnotin id hid
   have hno:ωIn ids ω (μ id)=.no:=by unfold ωIn; rw [e0]; simp only [hcont,Bool.false_eq_true,if_false]
   have hlt:=(R.ow (μ id) (by rw [e0]; simp)).2
   refine ⟨hb,?_,Rc.kp.block _ hlt (fun ho=>ho hno),fun j β h e=>hgapart _ β h e (by unfold ωIn; rw [e]; simp only [hcont,Bool.false_eq_true,if_false])⟩
   rcases ωOut_cases ids ids' σ.t.length w ω ω' (μ id) with ⟨_,_,e'⟩ | ⟨hk,_⟩
   ·rw [e']; exact e0
   ·rcases hk with hk | hk
    ·omega
    ·exact absurd hno hk
 ·have hid:id ∉ ids':=by
   intro hid
   obtain ⟨h1,h2⟩:=ziI hid
   obtain ⟨y0,g2,g3,hal,g4⟩:=hlent _ _ h2
   rw [g3] at hb
   cases y0 with
   | fz _=>simp [B.lend] at hal
   | live p' cs'=>simp [B.ren] at hb
   | gone=>simp [B.ren] at hb
   | mp _=>simp [B.ren] at hb
   | dead _=>simp [B.ren] at hb
  left
  rw [hother id hid] at hb
  obtain ⟨e0,arr,T,fr,e1,e2,e3⟩:=R.fs id cs hb
  have hlt:μ id < w.heap.size:=(Array.getElem?_eq_some_iff.1 e1).1
  have hωno:ωIn ids ω (μ id)=.no∨ωIn ids ω (μ id)≠.no:=by
   cases ωIn ids ω (μ id) <;> simp
  have hno:ωIn ids ω (μ id)=.no:=by
   rcases hωno with h | h
   ·exact h
   ·exfalso
    have hne:=ωIn_no h
    cases hω:ω (μ id) with
    | no=>exact hne hω
    | blk i=>exact e0 0 (.inr (by rw [hω]; trivial))
    | gs l hh=>exact e0 hh (.inr (by rw [hω]; exact Nat.le_refl _))
  refine ⟨hb,fun o ho=>e0 o ?_,Rc.kp.block _ hlt (fun ho=>ho hno)⟩
  rcases ωOut_cases ids ids' σ.t.length w ω ω' (μ id) with ⟨_,_,e'⟩ | ⟨hk,_⟩
  ·unfold wr at ho ⊢; rw [e'] at ho; exact ho
  ·rcases hk with hk | hk
   ·omega
   ·exact absurd hno hk
 ·by_cases hid:id ∈ ids'
  ·right
   obtain ⟨h1,h2⟩:=ziI hid
   obtain ⟨y0,g2,g3,hal,g4⟩:=hlent _ _ h2
   rw [g3] at hb
   obtain ⟨es',rfl⟩:∃ es',y0=.mp es':=by
    cases y0 with
    | mp es'=>exact ⟨es',rfl⟩
    | live p' cs'=>simp [B.ren] at hb
    | gone=>simp [B.ren] at hb
    | fz _=>simp [B.ren] at hb
    | dead _=>simp [B.ren] at hb
   simp only [B.ren,Option.some.injEq,B.mp.injEq] at hb
   subst hb
   have hmu:μ2 id=μ' (xM ids' id):=hμat _ _ h2
   obtain ⟨e0,arr,clock,e1,e2⟩:=Rc.ms (xM ids' id) es' (by simp only [List.getElem?_map,g2,Option.map_some]; rfl)
   rw [hmu]
   refine ⟨?_,arr,clock,e1,e2.mono hout⟩
   rw [hback _ _ e0 (by simp)]
   simp only [zr8,h1,if_true]
   rw [hgetD _ _ h2]
  ·left
   rw [hother id hid] at hb
   obtain ⟨e0,arr,clock,e1,_⟩:=R.ms id es hb
   have hcont:=hnotin id hid
   have hno:ωIn ids ω (μ id)=.no:=by unfold ωIn; rw [e0]; simp only [hcont,Bool.false_eq_true,if_false]
   have hlt:=(R.ow (μ id) (by rw [e0]; simp)).2
   refine ⟨hb,?_,Rc.kp.block _ hlt (fun ho=>ho hno)⟩
   rcases ωOut_cases ids ids' σ.t.length w ω ω' (μ id) with ⟨_,_,e'⟩ | ⟨hk,_⟩
   ·rw [e']; exact e0
   ·rcases hk with hk | hk
    ·omega
    ·exact absurd hno hk
 ·have hne:=ωIn_no ho
  rcases (R.ow k hne).1 with h | h
  ·omega
  ·exact h
 ·rcases ωOut_cases ids ids' σ.t.length w ω ω' k with ⟨h1,h2,e⟩ | ⟨h1,e⟩
  ·rw [e] at hk
   exact ⟨(R.ow k hk).1,Nat.lt_of_lt_of_le (R.ow k hk).2 Rc.kp.size⟩
  ·rw [e] at hk
   have hk':ω' k≠.no:=by intro e'; rw [e'] at hk; exact hk rfl
   have:=Rc.ow k hk'
   refine ⟨?_,this.2⟩
   rcases h1 with h | h
   ·exact .inl (Nat.le_trans R.kp.size h)
   ·exact (R.ow k (ωIn_no h)).1
 ·have hr0:Rep ren (env (UIn U ids ω) ⟨[r],bor'.map toB⟩ w' ω' μ') (.slot 0 0) r u:=Rc.ts 0 r rfl
  have one:∀ (v:V) (x:Value) (j:Nat),zpQ v=true→(∀ k ∈ xG v,k < ids'.length)→Rep ren (env (UIn U ids ω) ⟨[r],bor'.map toB⟩ w' ω' μ') (.slot 0 j) v x→Rep ren (env U σ2 w' (ωOut ids ids' σ.t.length w ω ω') μ2) (.slot σ.t.length j) (zdn (fun k=>ids'.getD k 0) v) x:=by
   intro v x j hv hrf hx
   exact hx.move (E':=env U σ2 w' (ωOut ids ids' σ.t.length w ω ω') μ2) (l':=.slot σ.t.length j) hout (fun k=>ids'.getD k 0) (fun id hid L hL=>hidT id (hrf id hid) L hL) (fun β hh e=>⟨by
    have e:ω' β=.gs (.slot 0 j) hh:=e
    show ωOut ids ids' σ.t.length w ω ω' β=_
    rw [hback _ _ e (by simp)]; rfl,rfl⟩) (fun k=>Nat.le_refl _) (zCI hv)
  have hrf:∀ k ∈ zid r,k < ids'.length:=fun k hk=>of_decide_eq_true (List.all_eq_true.1 hrr k hk)
  by_cases hnt:∀ vs,r≠.tup vs
  ·obtain ⟨t1,t2,t3⟩:=zwD hnt
   rw [t1]
   rw [t2] at hr
   rw [t3] at hrf
   exact one r u 0 hr hrf hr0
  ·obtain ⟨vs,rfl⟩:∃ vs,r=.tup vs:=by
    refine Classical.byContradiction fun hc=>hnt fun vs e=>hc ⟨vs,e⟩
   obtain ⟨us,e,hl,hel⟩:=hr0.tup_inv
   rw [e]
   refine .tup _ us (by simpa using hl) (fun j v x hv hx=>?_)
   rw [List.getElem?_map] at hv
   cases hvj:vs[j]? with
   | none=>simp [hvj] at hv
   | some v0 =>
    simp [hvj] at hv; subst hv
    have hv1:zpQ v0=true:=List.all_eq_true.1 hr v0 (List.mem_of_getElem? hvj)
    exact one v0 x (j+1) hv1 (fun k hk=>hrf k (by simp only [zid,List.mem_flatMap]; exact ⟨v0,List.mem_of_getElem? hvj,hk⟩)) (hel j v0 x hvj hx)
end
section
set_option linter.unusedVariables false
set_option linter.unusedSimpArgs false
variable {ren:Rn} {we:World} {ωe:Nat→Ow} {U:Nat→Nat→Prop} {O:Nat→Prop} {σ:St} {a:Act} {w:World} {ω:Nat→Ow} {μ:Nat→Nat} {P:Program} {nb:Nat}
theorem zt0 {b:List B} {nb:Nat}:∀ {xs:List Nat},zjv b nb xs=true→(xs.map (nb+·)).Nodup∧∀ x ∈ xs.map (nb+·),b[x]?=some .gone
 | [],_=>⟨by simp,by simp⟩
 | x::xs,h=>by
  simp only [zjv,Bool.and_eq_true] at h
  obtain ⟨⟨h1,h2⟩,h3⟩:=h
  obtain ⟨i1,i2⟩:=zt0 h3
  have hg:b[nb+x]?=some .gone:=by
   split at h2
   ·assumption
   ·cases h2
  refine ⟨?_,?_⟩
  ·rw [List.map_cons,List.nodup_cons]
   refine ⟨fun hm=>?_,i1⟩
   simp only [List.mem_map] at hm
   obtain ⟨y,hy,e⟩:=hm
   have:y=x:=by omega
   subst this
   simp [hy] at h1
  ·intro y hy
   rw [List.map_cons] at hy
   rcases List.mem_cons.1 hy with rfl | hy
   ·exact hg
   ·exact i2 y hy
theorem zyX (R:Rel ren we ωe U O σ a w ω μ) {cb:CB} (hcb:zgW P ren cb) {f:FuncId} {g:Nat} (hf:ren f=some g) {srcs:List (Src × Nat)} {args:List V} {us:List Value} (hlen:args.length=us.length)
  (hargs:∀ ω1,Rel ren we ωe U O { σ with b:=yu σ srcs σ.b } a w ω1 μ→Fr (env U σ w ω μ) (env U { σ with b:=yu σ srcs σ.b } w ω1 μ)→∀ (i:Nat) (v:V) (u:Value),args[i]?=some v→us[i]?=some u →
   RepP ren w (wr U ω1) v u∨(∀ l,Rep ren (env U { σ with b:=yu σ srcs σ.b } w ω1 μ) l v u∧zC0 v))
  {nb:Nat} {dst:Option Nat} {pin:Bool} {σ':St} {xs:List Nat} (h:zdv cb nb σ dst pin g args srcs xs=some σ') :
  zf7 P f=true∧Calls P f us.toArray w fun e w'=>∃ u,e=.returned u∧∃ ω' μ',Rel ren we ωe U O σ' (a.put dst u) w' ω' μ'∧∀ k,k < nb→μ' k=μ k:=by
 obtain ⟨ω1,R1,F1⟩:=R.frozenBy σ srcs
 have hargs1:=hargs ω1 R1 F1
 unfold zdv at h
 simp only [Option.bind_eq_bind,Option.bind_eq_some_iff] at h
 obtain ⟨bor,hl,⟨r,bor'⟩,hr,h⟩:=h
 simp only at h hr
 split at h
 ·rename_i hc
  obtain ⟨c1,c1',c2,c3,c3',c4,c5,c6,c7⟩:=hc
  have hn:(zai (yu σ srcs σ.b) args).Nodup:=zn2 _ _ _ _ (by simp)
  obtain ⟨k1',k2'⟩:=zt0 c7
  have k1:((xs.map (nb+·)).take (bor'.length - (zai (yu σ srcs σ.b) args).length)).Nodup:=k1'.sublist (List.take_sublist _ _)
  have k2:∀ x ∈ (xs.map (nb+·)).take (bor'.length - (zai (yu σ srcs σ.b) args).length),(yu σ srcs σ.b)[x]?=some .gone:=fun x hx=>k2' x (List.mem_of_mem_take hx)
  have hn2:(zai (yu σ srcs σ.b) args++(xs.map (nb+·)).take (bor'.length - (zai (yu σ srcs σ.b) args).length)).Nodup:=by
   rw [List.nodup_append]
   refine ⟨hn,k1,fun x hx y hy=>?_⟩
   rintro rfl
   have hgone:=k2 x hy
   obtain ⟨i,hi,e⟩:=List.getElem_of_mem hx
   rcases (zgA _ bor hl).2 i x (by rw [List.getElem?_eq_getElem hi,e]) with ⟨p,cs,g1,_⟩ | ⟨es,g1,_⟩ <;> (rw [hgone] at g1; cases g1)
  obtain ⟨hcall,hp⟩:=hcb _ _ _ _ _ hr f hf
  refine ⟨hcall,(hp w us _ _ _ _ (R1.enterRel hn hl hlen hargs1 c2)).mono ?_⟩
  rintro e w' ⟨u,ω',μ',rfl,Rc,hμ⟩
  refine ⟨u,rfl,?_⟩
  obtain ⟨ω2,μ2,R2,hr2,hm2⟩:=R1.leave hn2 k2 hl Rc hμ c1 c1' c4 c3 c3' c5 c6
  obtain ⟨ω3,μ3,R3,hm3⟩:=R2.putR (Nat.le_refl _) hr2 h
  refine ⟨ω3,μ3,R3,fun k hk=>(hm3 k hk).trans (hm2 k ?_)⟩
  intro hm
  have hm:=List.mem_of_mem_take hm
  simp only [List.mem_map] at hm
  obtain ⟨y,_,e⟩:=hm
  omega
 ·cases h
theorem StepOk.enter {o:Oper} {σ':St} {f:FuncId} {us:Array Value} (h:(execOp a.eval o).run P w=.ok (.enter f us) w) (hc:Calls P f us w fun e w'=>∃ u,e=.returned u∧∃ ω' μ',Rel ren we ωe U O σ' (a.put o.dst u) w' ω' μ'∧∀ k,k < nb→μ' k=μ k):StepOk P ren we ωe U O a w o σ' nb μ:=by
 intro K Q hK
 unfold Oper.wp
 rw [h]
 refine hc.mono ?_
 rintro e w' ⟨u,rfl,ω',μ',R,hm⟩
 exact hK _ _ _ _ R hm
theorem ztB {f:FuncId} (h:zf7 P f=true) (us:Array Value) (w:World):(callFunc f us).run P w=.ok (.enter f us) w:=by
 unfold zf7 at h
 cases hf:P.funcs[f]? with
 | none=>simp [hf] at h
 | some fn =>
  simp only [hf,Bool.and_eq_true,bne_iff_ne,ne_eq] at h
  have hb:fn.body.isNone=false:=by
   cases hb:fn.body with
   | none=>simp [hb] at h
   | some c=>rfl
  simp [callFunc,hf,h.2]
  intro e
  rw [e] at hb; cases hb
theorem zvv (ld:Nat):∀ (xs:List Operand) (ts:List TypeId) (ss:List (Src × Nat)),znI P ren ld xs ts=some ss→ss.length=xs.length∧∀ (i:Nat) (s:Src × Nat),ss[i]?=some s→∃ x ty,xs[i]?=some x∧xt P ren ty x=some s.1
 | [],ts,ss,h=>by cases h; exact ⟨rfl,by simp⟩
 | x::xs,ts,ss,h=>by
  simp only [znI,Option.bind_eq_bind,Option.bind_eq_some_iff,Option.pure_def,Option.some.injEq] at h
  obtain ⟨s,hs,rest,hr,rfl⟩:=h
  obtain ⟨e,ih⟩:=zvv ld xs ts.tail rest hr
  refine ⟨by simp [e],fun i s' hi=>?_⟩
  cases i with
  | zero=>simp at hi; subst hi; exact ⟨x,_,rfl,hs⟩
  | succ i=>simp at hi; simpa using ih i s' hi
theorem zAR (R:Rel ren we ωe U O σ a w ω μ) {xs:List Operand} {ts:List TypeId} {ss:List (Src × Nat)} {ld:Nat} (h:znI P ren ld xs ts=some ss) {vs:List V} (hv:ss.mapM (zbe σ)=some vs) :
  vs.length=xs.length∧∀ ω1,Rel ren we ωe U O { σ with b:=yu σ ss σ.b } a w ω1 μ→Fr (env U σ w ω μ) (env U { σ with b:=yu σ ss σ.b } w ω1 μ)→∀ (i:Nat) (v:V) (u:Value),vs[i]?=some v→(xs.map a.eval)[i]?=some u →
   RepP ren w (wr U ω1) v u∨(∀ l,Rep ren (env U { σ with b:=yu σ ss σ.b } w ω1 μ) l v u∧zC0 v):=by
 obtain ⟨e1,e2⟩:=zvv ld xs ts ss h
 refine ⟨by rw [zb6 hv,e1],fun ω1 R1 F1 i v u hvi hui=>?_⟩
 have hlt:i < ss.length:=by rw [← zb6 hv]; exact (List.getElem?_eq_some_iff.1 hvi).1
 obtain ⟨v',g1,g2⟩:=zhf hv i _ (List.getElem?_eq_getElem hlt)
 rw [hvi] at g1; cases g1
 obtain ⟨x,ty,g3,g4⟩:=e2 i _ (List.getElem?_eq_getElem hlt)
 rw [List.getElem?_map,g3] at hui
 cases hui
 exact zDr R R1 F1 (List.getElem_mem hlt) g4 g2
theorem zDU (R:Rel ren we ωe U O σ a w ω μ) {cb:CB} (hcb:zgW P ren cb) {o:Oper} {f:FuncId} {args:Array Operand} {ats:Array TypeId} (hop:o.op=.call { callee:=.value (.func f),args:=args,argTypes:=ats }) {g:Nat} (hf:ren f=some g) {ss:List (Src × Nat)} {ld:Nat} (hs:znI P ren ld args.toList ats.toList=some ss) {nb:Nat} {pin:Bool} {xs:List Nat} {σ':St} (h:zj cb nb σ o.dst pin (.call g ss xs)=some σ'):StepOk P ren we ωe U O a w o σ' nb μ:=by
 simp only [zj,Option.bind_eq_bind,Option.bind_eq_some_iff] at h
 obtain ⟨vs,hv,h⟩:=h
 obtain ⟨e1,e2⟩:=zAR R hs hv
 obtain ⟨hc,hcalls⟩:=zyX R hcb hf (us:=args.toList.map a.eval) (by simpa using e1) e2 h
 refine .enter (us:=(args.toList.map a.eval).toArray) ?_ hcalls
 have ef:a.eval (.func f)=.func (.func f) #[] #[]:=rfl
 simp only [execOp,hop,resolve,ef,Deferred.ofValue,Sem.run_bind,Sem.run_pure,Result.andThen_ok,invoke]
 rw [show #[]++args.map a.eval++#[]=(args.toList.map a.eval).toArray by apply Array.ext'; simp]
 exact ztB hc _ w
theorem zC1 (R:Rel ren we ωe U O σ a w ω μ) {cb:CB} (hcb:zgW P ren cb) {o:Oper} {t:Nat} {args:Array Operand} {ats:Array TypeId} (hop:o.op=.call { callee:=.value (.tmp t),args:=args,argTypes:=ats }) {ss:List (Src × Nat)} {ld:Nat} (hs:znI P ren ld args.toList ats.toList=some ss) {nb:Nat} {pin:Bool} {xs:List Nat} {σ':St} (h:zj cb nb σ o.dst pin (.callv (.tmp t) ss xs)=some σ'):StepOk P ren we ωe U O a w o σ' nb μ:=by
 simp only [zj] at h
 split at h
 ·rename_i g caps hg
  simp only [Option.bind_eq_bind,Option.bind_eq_some_iff] at h
  obtain ⟨vs,hv,h⟩:=h
  have hr:=R.slot t
  have hg:σ.t.getD t .junk=.fn g caps:=hg
  rw [hg] at hr
  obtain ⟨f,us,eu,hf,hcl,hcaps⟩:=hr.fn_inv
  obtain ⟨e1,e2⟩:=zAR R hs hv
  have hvl:vs.length=(args.toList.map a.eval).length:=by simpa using e1
  obtain ⟨hc,hcalls⟩:=zyX R hcb hf (args:=vs++caps) (us:=args.toList.map a.eval++us) (by simp [hcl,← hvl]) (fun ω1 R1 F1 i v u hi hu=>by
   by_cases hlt:i < vs.length
   ·rw [List.getElem?_append_left hlt] at hi
    rw [List.getElem?_append_left (by omega)] at hu
    exact e2 ω1 R1 F1 i v u hi hu
   ·rw [List.getElem?_append_right (by omega)] at hi
    rw [List.getElem?_append_right (by omega),← hvl] at hu
    obtain ⟨id,off,L,rfl,q1,q2⟩:=hcaps _ v hi
    rw [q2] at hu; cases hu
    exact .inr fun l=>⟨Rep.frame0 F1 (fun _=>.ptr id off L q1) (by simp) l,.inl ⟨id,off,rfl⟩⟩) h
  refine .enter (us:=(args.toList.map a.eval++us).toArray) ?_ hcalls
  have ef:a.eval (.tmp t)=.func (.func f) #[] us.toArray:=eu
  simp only [execOp,hop,resolve,ef,Deferred.ofValue,Sem.run_bind,Sem.run_pure,Result.andThen_ok,invoke]
  rw [show #[]++args.map a.eval++us.toArray=(args.toList.map a.eval++us).toArray by apply Array.ext'; simp]
  exact ztB hc _ w
 ·cases h
theorem zFz (R:Rel ren we ωe U O σ a w ω μ) {cb:CB} (hcb:zgW P ren cb) {o:Oper} {take:Bool} {xs:List Nat} {k:K} (hk:cK P ren o take xs=some k) {nb:Nat} {pin:Bool} {σ':St} (h:zj cb nb σ o.dst pin k=some σ'):StepOk P ren we ωe U O a w o σ' nb μ:=by
 by_cases hc:(∃ f xs ys,k=.call f xs ys)∨(∃ f xs ys,k=.callv f xs ys)
 ·have hcc:∃ c,o.op=.call c:=by
   unfold cK at hk
   split at hk <;> (try simp only [Option.bind_eq_bind,Option.bind_eq_some_iff,Option.some.injEq] at hk)
   all_goals first
    | exact ⟨_,by assumption⟩
    | (exfalso
       rcases hc with ⟨f,xs,ys,rfl⟩ | ⟨f,xs,ys,rfl⟩ <;> first
      | (rcases znT _ _ hk with ⟨_,_,_,e⟩ | ⟨_,_,e⟩ | ⟨_,_,e⟩ | ⟨_,_,e⟩ <;> cases e; done)
      | (obtain ⟨_,_,hk⟩:=hk; cases hk; done)
      | (obtain ⟨_,_,_,_,hk⟩:=hk; cases hk; done)
      | (obtain ⟨_,_,_,_,_,_,hk⟩:=hk; cases hk; done)
      | (cases hk; done)
      | (repeat' (first | (split at hk) | (simp only [Option.bind_eq_bind,Option.bind_eq_some_iff,Option.some.injEq] at hk) | (obtain ⟨_,_,hk⟩:=hk) | (cases hk; done))))
  obtain ⟨⟨callee,args,ats⟩,hop⟩:=hcc
  unfold cK at hk
  rw [hop] at hk
  simp only at hk
  split at hk <;> (try simp only [Option.bind_eq_bind,Option.bind_eq_some_iff,Option.some.injEq] at hk)
  ·split at hk
   ·exfalso
    split at hk
    ·simp only [Option.bind_eq_bind,Option.bind_eq_some_iff,Option.some.injEq] at hk
     obtain ⟨s1,h1,s2,h2,rfl⟩:=hk
     rcases hc with ⟨f,xs,ys,e⟩ | ⟨f,xs,ys,e⟩ <;> cases e
    ·cases hk
   ·simp only [Option.bind_eq_bind,Option.bind_eq_some_iff,Option.some.injEq] at hk
    obtain ⟨g,hg,ss,hs,rfl⟩:=hk; exact zDU R hcb hop hg hs h
  ·obtain ⟨ss,hs,rfl⟩:=hk; exact zC1 R hcb hop hs h
  ·exfalso
   unfold zpi at hk
   rcases hc with ⟨f,xs,ys,rfl⟩ | ⟨f,xs,ys,rfl⟩ <;>
    (repeat' (first | (split at hk) | (simp only [Option.bind_eq_bind,Option.bind_eq_some_iff,Option.some.injEq] at hk) | (obtain ⟨_,_,hk⟩:=hk) | (cases hk; done)))
  ·cases hk
 ·exact zEM R hk h (fun f xs ys e=>hc (.inl ⟨f,xs,ys,e⟩)) (fun f xs ys e=>hc (.inr ⟨f,xs,ys,e⟩))
end
end Go.Proofs.YteopmmegeagklaaDoor
