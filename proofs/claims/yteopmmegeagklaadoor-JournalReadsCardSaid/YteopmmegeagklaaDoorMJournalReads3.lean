/- Part 3 of the proof of JournalReads: an abstract machine over plain values, its soundness, and the functions of the program on plain values. -/
import Derived.Laws.CopyRow
import Derived.Laws.AppendOwn
import Derived.Test.YteopmmegeagklaaDoorMJournalReads2
namespace Go.Proofs.YteopmmegeagklaaDoor
section
set_option linter.unusedVariables false
set_option linter.unusedSimpArgs false
variable {ren:Rn} {we:World} {ωe:Nat→Ow} {U:Nat→Nat→Prop} {O:Nat→Prop} {σ:St} {a:Act} {w:World} {ω:Nat→Ow} {μ:Nat→Nat} {P:Program} {nb:Nat}
def StepOk (P:Program) (ren:Rn) (we:World) (ωe:Nat→Ow) (U:Nat→Nat→Prop) (O:Nat→Prop) (a:Act) (w:World) (o:Oper) (σ':St) (nb:Nat) (μ:Nat→Nat):Prop :=
 ∀ (K:Act→World→Prop) (Q:Exit→Act→World→Prop),(∀ a' w' ω' μ',Rel ren we ωe U O σ' a' w' ω' μ'→(∀ k,k < nb→μ' k=μ k)→K a' w')→o.wp P a w K Q
theorem StepOk.value {o:Oper} {σ':St} {u:Value} {w':World} (h:(execOp a.eval o).run P w=.ok (.value u) w') (hR:∃ ω' μ',Rel ren we ωe U O σ' (a.put o.dst u) w' ω' μ'∧∀ k,k < nb→μ' k=μ k):StepOk P ren we ωe U O a w o σ' nb μ:=by
 intro K Q hK
 unfold Oper.wp
 rw [h]
 obtain ⟨ω',μ',R,hm⟩:=hR
 exact hK _ _ _ _ R hm
theorem StepOk.skip {o:Oper} {σ':St} {w':World} (h:(execOp a.eval o).run P w=.ok .skip w') (hR:∃ ω' μ',Rel ren we ωe U O σ' (a.put o.dst undef) w' ω' μ'∧∀ k,k < nb→μ' k=μ k):StepOk P ren we ωe U O a w o σ' nb μ:=by
 intro K Q hK
 unfold Oper.wp
 rw [h]
 obtain ⟨ω',μ',R,hm⟩:=hR
 exact hK _ _ _ _ R hm
theorem StepOk.gives (R:Rel ren we ωe U O σ a w ω μ) {o:Oper} {v:V} (h:zaR P ren (env U σ w ω μ) a o v):StepOk P ren we ωe U O a w o (σ.put o.dst v) nb μ:=by
 obtain ⟨u,h1,h2⟩:=h
 exact .value h1 ⟨ω,μ,R.put _ (fun i _=>h2 _),fun _ _=>rfl⟩
theorem zup (R:Rel ren we ωe U O σ a w ω μ) {o:Oper} {x:Operand} (hop:o.op=.move x∨o.op=.assign x) {s:Src} {t:TypeId} (hs:xt P ren t x=some s) {nb:Nat} {cb:CB} {take pin:Bool} {σ':St} (h:zj cb nb σ o.dst pin (.move s take)=some σ'):StepOk P ren we ωe U O a w o σ' nb μ:=by
 have run:(execOp a.eval o).run P w=.ok (.value (a.eval x)) w:=by
  rcases hop with e | e <;> simp [execOp,e]
 refine .value run ?_
 simp only [zj] at h
 split at h
 ·cases h
 ·split at h
  ·cases h
   obtain ⟨c1,c2⟩:=R.opndC hs
   cases hd:o.dst with
   | none =>
    exact ⟨ω,μ,R.demote s,fun _ _=>rfl⟩
   | some d =>
    by_cases htup:∃ x xs,s.get σ=.tup (x::xs)
    ·obtain ⟨y,ys,hy⟩:=htup
     cases s with
     | const v =>
      have hy:v=.tup (y::ys):=hy
      subst hy
      have hC:=c2 _ rfl (.slot d 0)
      exact ⟨ω,μ,(R.demote (.const (.tup (y::ys)))).put (some d) (fun i hi=>by cases hi; exact hC),fun _ _=>rfl⟩
     | tmp t =>
      have hr:=R.opnd hs
      rw [hy] at hr ⊢
      have hr:Rep ren (env U σ w ω μ) (.slot t 0) (.tup (y::ys)) (a.eval x):=hr
      have R1:=(R.demote (.tmp t)).renSlot' (T:=t) (fun v hv=>by
       simp only [St.demote] at hv
       rw [List.getElem?_modify] at hv
       have hy:σ.t.getD t .junk=.tup (y::ys):=hy
       cases hv':σ.t[t]? with
       | none=>simp [hv'] at hv
       | some v' =>
        rw [List.getD_eq_getElem?_getD,hv'] at hy
        simp [hv'] at hv hy
        subst hy; subst hv; rfl) d
      refine ⟨_,μ,R1.put (some d) (fun i hi=>?_),fun _ _=>rfl⟩
      cases hi
      have:Rep ren (env U σ w (zgH t d ω) μ) (.slot d 0) (.tup (y::ys)) (a.eval x):=by simpa [Loc.rn] using hr.renSlot (T:=t) (d:=d)
      exact this
    have hmv:(s.get σ).mv=(s.get σ).tk:=by
     cases hv:s.get σ with
     | tup vs =>
      cases vs with
      | nil=>rfl
      | cons y ys=>exact absurd ⟨y,ys,hv⟩ htup
     | _=>rfl
    rw [hmv]
    obtain ⟨ω',F,R',hr,_⟩:=R.taken s (R.opnd hs) c1 c2 (.slot d 0)
    refine ⟨ω',μ,R'.put (some d) (fun i hi=>?_),fun _ _=>rfl⟩
    cases hi
    have e:env U (σ.demote s) w ω' μ=env U σ w ω' μ:=by cases s <;> rfl
    rw [e]; exact hr
  ·cases h
   exact ⟨ω,μ,R.put _ (fun i _=>(R.opnd hs).dem R.hU _),fun _ _=>rfl⟩
theorem zDi {t:TypeId} {i:TypeInfo} {z:Value} (hi:P.info? t=some i) (hz:i.zero=some z) (w:World):(Instr.alloc t true (.tuple #[])).run P w=.ok (.pointer (some ⟨w.heap.size,0,none⟩)) (w.alloc (.cells z.cells t)):=by
 simp [Instr.alloc,zeroValue,typeInfo,hi,hz,newVar,newRow]
theorem zx8 {nb d:Nat} {p:Bool} {cs:List V} {arr:Array Value} {T:TypeId} (hg:σ.b[nb+d]?=some .gone) (i:Nat):Rep ren (env U (σ.setB (nb+d) (.live p cs)) (w.alloc (.cells arr T)) (upd ω w.heap.size (.blk (nb+d))) (upd μ (nb+d) w.heap.size)) (.slot i 0) (.ptr (nb+d) 0) (.pointer (some ⟨w.heap.size,0,none⟩)):=by
 have hlt:nb+d < σ.b.length:=(List.getElem?_eq_some_iff.1 hg).1
 have:=Rep.ptr (ren:=ren) (E:=env U (σ.setB (nb+d) (.live p cs)) (w.alloc (.cells arr T)) (upd ω w.heap.size (.blk (nb+d))) (upd μ (nb+d) w.heap.size)) (l:=.slot i 0) (nb+d) 0 cs.length (ze7 hlt _ _)
 simpa [env,yH] using this
theorem zuj {Wr:Nat→Nat→Prop} {cs:List V} {arr:Array Value} (h:CellsP ren w Wr cs arr.toList):cs.length≤arr.size∧∀ (j:Nat) (c:V),cs[j]?=some c→∃ u,arr[j]?=some u∧u.oneCell'=true∧RepP ren w Wr c u:=by
 refine ⟨by have:=h.1; simp at this; omega,fun j c hc=>?_⟩
 obtain ⟨u,g⟩:=h.2 j c hc
 exact ⟨u,by simpa using g⟩
theorem zCv (R:Rel ren we ωe U O σ a w ω μ) {o:Oper} {t:TypeId} (hop:o.op=.alloc t) {z:List V} (hz:zf0 P t=some z) {nb:Nat} {cb:CB} {p pin:Bool} {σ':St} (h:zj cb nb σ o.dst pin (.alloc p z)=some σ'):StepOk P ren we ωe U O a w o σ' nb μ:=by
 obtain ⟨i,zv,hi,hzv,hc⟩:=zgU (ren:=ren) (w:=w) (Wr:=wr U ω) hz
 simp only [zj] at h
 obtain ⟨d,hd,hg,rfl⟩:=zf8 h
 refine .value (u:=.pointer (some ⟨w.heap.size,0,none⟩)) (w':=w.alloc (.cells zv.cells t)) (by simp [execOp,hop,zDi hi hzv]) ?_
 obtain ⟨q1,q2⟩:=zuj hc
 obtain ⟨F,R'⟩:=R.newBlock hg p z zv.cells t q1 q2
 exact ⟨_,_,by rw [hd]; exact R'.put (some d) (fun i _=>zx8 hg i),fun k hk=>zks hk⟩
theorem zEs (R:Rel ren we ωe U O σ a w ω μ) {o:Oper} {t:TypeId} {x:Operand} (hop:o.op=.box t x) {s:Src} {t1:TypeId} (hs:xt P ren t1 x=some s) {nb:Nat} {cb:CB} {p pin:Bool} {σ':St} (h:zj cb nb σ o.dst pin (.box p s)=some σ'):StepOk P ren we ωe U O a w o σ' nb μ:=by
 simp only [zj] at h
 split at h
 ·rename_i cs hgs
  cases p with
  | true=>simp at h
  | false =>
   simp only [Bool.false_eq_true,if_false] at h
   obtain ⟨d,hd,hg,rfl⟩:=zf8 h
   have hr:=R.opnd hs
   rw [hgs] at hr
   obtain ⟨us,eu,hl,hc,h1⟩:=hr.st_inv
   refine .value (u:=.pointer (some ⟨w.heap.size,0,none⟩)) (w':=w.alloc (.cells us.toArray t)) (by simp [execOp,hop,Instr.box,newVar,newRow,eu,Value.cells]) ?_
   obtain ⟨F,R'⟩:=R.newBlockG hg false cs us.toArray t (by simp [hl]) (fun j c hj=>by
    have hlt:j < us.length:=by rw [← hl]; exact (List.getElem?_eq_some_iff.1 hj).1
    refine ⟨us[j],by simp [hlt],h1 _ (List.getElem_mem hlt),?_⟩
    rcases hc j c _ hj (List.getElem?_eq_getElem hlt) with q | q
    ·exact .inl q
    ·exact .inr ⟨rfl,q⟩)
   exact ⟨_,_,by rw [hd]; exact R'.put (some d) (fun i _=>zx8 hg i),fun k hk=>zks hk⟩
 split at h
 ·rename_i v hv
  obtain ⟨d,hd,hg,rfl⟩:=zf8 h
  have hr:=(R.opnd hs).plain R.hU hv
  refine .value (u:=.pointer (some ⟨w.heap.size,0,none⟩)) (w':=w.alloc (.cells (a.eval x).cells t)) (by simp [execOp,hop,Instr.box,newVar,newRow]) ?_
  obtain ⟨q1,q2⟩:=zuj hr.cellsP
  obtain ⟨F,R'⟩:=R.newBlock hg p v.cells (a.eval x).cells t q1 q2
  exact ⟨_,_,by rw [hd]; exact R'.put (some d) (fun i _=>zx8 hg i),fun k hk=>zks hk⟩
 ·cases h
theorem zpy (R:Rel ren we ωe U O σ a w ω μ) {nb:Nat} {dst:Option Nat} {pin:Bool} {sz:Nat} {es:List (List V)} {σ':St} (h:σ.putG nb dst pin sz es=some σ') {arr:Array Value} {T:TypeId} {c:Nat} (hsz:∀ e ∈ es,e.length=sz) (hn:es.length≤c) (hpz:pin=true→es=[]→c=0) (hc:c * sz≤arr.size)
  (hcell:∀ (i:Nat) (v:V),es.flatten[i]?=some v→∃ u,arr[i]?=some u∧u.oneCell'=true∧RepP ren w (wr U ω) v u) :
  ∃ ω' μ',Rel ren we ωe U O σ' (a.put dst (.slice (some ⟨w.heap.size,0,none⟩) es.length c)) (w.alloc (.cells arr T)) ω' μ'∧∀ k,k < nb→μ' k=μ k:=by
 have hfl:=zap hsz
 have hle:es.length * sz≤c * sz:=Nat.mul_le_mul_right sz hn
 have hnew:(w.alloc (.cells arr T)).heap[w.heap.size]?=some (.cells arr T (0,0)):=heap_alloc_new w _
 unfold St.putG at h
 split at h
 ·rename_i hpin
  obtain ⟨d,rfl,hg,rfl⟩:=zf8 h
  have hlt:nb+d < σ.b.length:=(List.getElem?_eq_some_iff.1 hg).1
  obtain ⟨F,R'⟩:=R.newBlock hg true es.flatten arr T (by omega) hcell
  refine ⟨_,_,R'.put (some d) (fun i _=>?_),fun k hk=>zks hk⟩
  refine .own (nb+d) 0 es.length sz c es.flatten.length _ (ze7 hlt _ _) (by omega) ⟨hn,fun h0=>zy6 hsz h0 (fun q=>.inr (hpz hpin q))⟩ (.inl ⟨by show some (Addr.mk w.heap.size 0 none)=some ⟨upd μ (nb+d) w.heap.size (nb+d),0,none⟩; rw [yH],?_⟩)
  show 0+c * sz≤yE (w.alloc (.cells arr T)) (upd μ (nb+d) w.heap.size (nb+d))
  rw [yH,zbf hnew]; omega
 ·cases h
  cases dst with
  | none =>
   obtain ⟨F,R'⟩:=R.newGs (.slot 0 0) 0 arr T
   exact ⟨_,_,R',fun _ _=>rfl⟩
  | some d =>
   obtain ⟨F,R'⟩:=R.newGs (.slot d 0) (es.length * sz) arr T
   refine ⟨_,_,R'.put (some d) (fun i hi=>?_),fun _ _=>rfl⟩
   cases hi
   refine .gs sz es w.heap.size c arr T (fun i=>arr.toList.getD i undef) (yH _ _ _) hnew hc hn hsz (fun i v hv=>?_) (fun i v hv=>?_) (fun i v hv=>?_) <;>
    (obtain ⟨u,g1,g2,g3⟩:=hcell i v hv
     have g1':arr.toList[i]?=some u:=by simpa using g1
     have e:arr.toList.getD i undef=u:=by rw [List.getD_eq_getElem?_getD,g1']; rfl
     simp only [e])
   ·exact g1
   ·exact g2
   ·exact g3.mono F.st
theorem zCo (R:Rel ren we ωe U O σ a w ω μ) {nb:Nat} {dst:Option Nat} {sz len:Nat} {cs:List V} {σ':St} (h:σ.newB nb dst (.live true cs) (fun id=>.own id 0 len sz)=some σ') {arr:Array Value} {T:TypeId} {c:Nat} (hlen:len * sz≤cs.length) (hn:len≤c) (hz:cs.length=0→sz=0∨c=0) (hc:c * sz≤arr.size) (hca:cs.length≤arr.size)
  (hcell:∀ (i:Nat) (v:V),cs[i]?=some v→∃ u,arr[i]?=some u∧u.oneCell'=true∧RepP ren w (wr U ω) v u) :
  ∃ ω' μ',Rel ren we ωe U O σ' (a.put dst (.slice (some ⟨w.heap.size,0,none⟩) len c)) (w.alloc (.cells arr T)) ω' μ'∧∀ k,k < nb→μ' k=μ k:=by
 have hnew:(w.alloc (.cells arr T)).heap[w.heap.size]?=some (.cells arr T (0,0)):=heap_alloc_new w _
 obtain ⟨d,rfl,hg,rfl⟩:=zf8 h
 have hlt:nb+d < σ.b.length:=(List.getElem?_eq_some_iff.1 hg).1
 obtain ⟨F,R'⟩:=R.newBlock hg true cs arr T hca hcell
 refine ⟨_,_,R'.put (some d) (fun i _=>?_),fun k hk=>zks hk⟩
 refine .own (nb+d) 0 len sz c cs.length _ (ze7 hlt _ _) (by omega) ⟨hn,hz⟩ (.inl ⟨by show some (Addr.mk w.heap.size 0 none)=some ⟨upd μ (nb+d) w.heap.size (nb+d),0,none⟩; rw [yH],?_⟩)
 show 0+c * sz≤yE (w.alloc (.cells arr T)) (upd μ (nb+d) w.heap.size (nb+d))
 rw [yH,zbf hnew]; omega
theorem zzN {α:Type} (l:List α) (n i:Nat):((List.replicate n l).flatten)[i]?=if i < n * l.length then l[i % l.length]? else none:=by
 induction n generalizing i with
 | zero=>simp
 | succ n ih =>
  rw [List.replicate_succ,List.flatten_cons,Nat.add_mul,Nat.one_mul]
  by_cases h:i < l.length
  ·rw [List.getElem?_append_left h,if_pos (by omega),Nat.mod_eq_of_lt h]
  ·rw [List.getElem?_append_right (by omega),ih]
   by_cases h2:i - l.length < n * l.length
   ·rw [if_pos h2,if_pos (by omega),← Nat.mod_eq_sub_mod (by omega)]
   ·rw [if_neg h2,if_neg (by omega)]
theorem zkl {Wr:Nat→Nat→Prop} {z:List V} {zv:Value} (hz:CellsP ren w Wr z zv.cells.toList) (n:Nat) (m:Nat) (hm:n * z.length≤m) (hpos:0 < z.length):∀ (i:Nat) (v:V),((List.replicate n z).flatten)[i]?=some v→∃ u,((Array.range m).map (fun i=>zv.cells[i % zv.cells.size]!))[i]?=some u∧u.oneCell'=true∧RepP ren w Wr v u:=by
 intro i v hv
 rw [zzN] at hv
 split at hv
 ·rename_i hi
  obtain ⟨u,g1,g2,g3⟩:=hz.2 _ v hv
  refine ⟨u,?_,g2,g3⟩
  have e:zv.cells.size=z.length:=by have:=hz.1; simp at this; omega
  have him:i < m:=by omega
  have hmod:i % z.length < zv.cells.size:=by rw [e]; exact Nat.mod_lt _ hpos
  have g1':zv.cells[i % z.length]?=some u:=by simpa using g1
  simp only [Array.getElem?_map,Array.getElem?_range,him,if_true,Option.map_some,e]
  rw [Array.getElem?_eq_getElem hmod] at g1'
  cases g1'
  simp [hmod]
 ·cases hv
theorem zx4 (R:Rel ren we ωe U O σ a w ω μ) {o:Oper} {t e:TypeId} {l c:Operand} (hop:o.op=.makeSlice t l c) (ht:P.underlying t=some (.slice e)) {z:List V} (hz:zf0 P e=some z) {sz:Nat} (hsz:zH P e=some sz) {i:TypeInfo} (hi:P.info? e=some i) (hpos:0 < sz) (hzl:z.length=sz)
  {sl sc:Src} {t1 t2:TypeId} (h1:xt P ren t1 l=some sl) (h2:xt P ren t2 c=some sc) {nb:Nat} {cb:CB} {pin:Bool} {σ':St} (h:zj cb nb σ o.dst pin (.makeSlice sz i.bytes (z.map V.dem) sl sc)=some σ'):StepOk P ren we ωe U O a w o σ' nb μ:=by
 obtain ⟨i',zv,hi',hzv,hcz⟩:=zgU (ren:=ren) (w:=w) (Wr:=wr U ω) hz
 rw [hi] at hi'; cases hi'
 obtain ⟨i2,hi2,e2⟩:=zeT hsz
 rw [hi] at hi2; cases hi2
 simp only [zj] at h
 split at h
 ·rename_i n m hn hm
  split at h
  ·rename_i hb
   obtain ⟨k1,e1⟩:=(R.opnd h1).int hn
   obtain ⟨k2,e3⟩:=(R.opnd h2).int hm
   have hbytes:(i.bytes:Int) * m≤281474976710656:=by
    have hle:=hb.2.2.1
    unfold xj at hle
    have e:((m.toNat * i.bytes:Nat):Int)≤140737488355328:=by omega
    rw [Int.natCast_mul,Int.toNat_of_nonneg (by omega),Int.mul_comm] at e
    omega
   have run:=run_make (P:=P) w t e i zv ht hi hzv k1 k2 n m hb.1 hb.2.1 hbytes (by have:=hb.2.2.2; unfold xj at this; omega)
   refine .value (u:=.slice (some ⟨w.heap.size,0,none⟩) n.toNat m.toNat) (w':=w.alloc (.cells (madeCells zv.cells (m.toNat * i.size)) e)) (by simp [execOp,hop,e1,e3,run]) ?_
   have hd:=ziA hcz
   have hzl':(z.map V.dem).length=sz:=by simp [hzl]
   have hlen:(List.replicate n.toNat (z.map V.dem)).length=n.toNat:=by simp
   split at h
   ·have hfl:(List.replicate m.toNat (z.map V.dem)).flatten.length=m.toNat * sz:=by simp [List.length_flatten,hzl]
    exact zCo R h (arr:=madeCells zv.cells (m.toNat * i.size)) (T:=e) (c:=m.toNat) (by rw [hfl]; exact Nat.mul_le_mul_right sz (by omega)) (by omega) (fun q=>by
     rw [hfl] at q
     rcases Nat.mul_eq_zero.1 q with q | q
     ·exact .inr q
     ·exact .inl q) (by simp [madeCells,e2]) (by rw [hfl]; simp [madeCells,e2])
     (fun j v hv=>by
      have:=zkl hd m.toNat (m.toNat * i.size) (by rw [hzl',e2]; exact Nat.le_refl _) (by omega) j v hv
      simpa [madeCells] using this)
   have key:=zpy R h (arr:=madeCells zv.cells (m.toNat * i.size)) (T:=e) (c:=m.toNat) (fun x hx=>by rw [List.eq_of_mem_replicate hx]; exact hzl') (by rw [hlen]; omega) (fun q=>by cases q) (by simp [madeCells,e2])
    (fun j v hv=>by
     have:=zkl hd n.toNat (m.toNat * i.size) (by rw [hzl',e2]; exact Nat.mul_le_mul_right sz (by omega)) (by omega) j v hv
     simpa [madeCells] using this)
   rw [hlen] at key
   exact key
  ·cases h
 ·cases h
end
section
set_option linter.unusedVariables false
set_option linter.unusedSimpArgs false
variable {ren:Rn} {we:World} {ωe:Nat→Ow} {U:Nat→Nat→Prop} {O:Nat→Prop} {σ:St} {a:Act} {w:World} {ω:Nat→Ow} {μ:Nat→Nat} {P:Program} {nb:Nat}
theorem zxa (R:Rel ren we ωe U O σ a w ω μ) {o:Oper} {t e:TypeId} {n:Nat} {parts:Array (Nat × Operand)} (hop:o.op=.buildSlice t n parts) (ht:P.underlying t=some (.slice e)) {z:List V} (hz:zf0 P e=some z) {sz:Nat} (hsz:zH P e=some sz) (hpos:0 < sz) (hzl:z.length=sz) (hbig:n * sz≤1000000)
  {ps:List (Nat × Nat × Src)} (hps:ziO P ren (fun i=>some (i * sz,e)) parts.toList=some ps) {nb:Nat} {cb:CB} {pin:Bool} {σ':St} (h:zj cb nb σ o.dst pin (.buildSlice sz n (z.map V.dem) ps)=some σ'):StepOk P ren we ωe U O a w o σ' nb μ:=by
 obtain ⟨i,zv,hi,hzv,hcz⟩:=zgU (ren:=ren) (w:=w) (Wr:=wr U ω) hz
 obtain ⟨i2,hi2,e2⟩:=zeT hsz
 rw [hi] at hi2; cases hi2
 simp only [zj,Option.bind_eq_bind,Option.bind_eq_some_iff] at h
 obtain ⟨cs',hf,h⟩:=h
 have hd:=ziA hcz
 have hzl':(z.map V.dem).length=sz:=by simp [hzl]
 have hbig':¬ (2 ^ 24 < n * sz):=by omega
 let zero:Array Value:=if n * sz=0 then #[] else zv.cells
 have hzero:zero=if n * sz=0 then #[] else zv.cells:=rfl
 have hinit:CellsP ren w (wr U ω) (List.replicate n (z.map V.dem)).flatten ((Array.range (n * sz)).map (fun i=>zero[i % zero.size]!)).toList:=by
  refine ⟨?_,fun j v hv=>?_⟩
  ·rw [zap (sz:=sz) (fun x hx=>by rw [List.eq_of_mem_replicate hx]; exact hzl')]; simp
  ·have hn0:n * sz≠0:=by
    intro h0
    have:n=0:=by
     rcases Nat.mul_eq_zero.1 h0 with h | h
     ·exact h
     ·omega
    subst this
    simp at hv
   rw [hzero,if_neg hn0]
   obtain ⟨u,g1,g2⟩:=zkl hd n (n * sz) (by rw [hzl']; exact Nat.le_refl _) (by omega) j v hv
   exact ⟨u,by rw [Array.getElem?_toList]; exact g1,g2⟩
 obtain ⟨arr',g1,g2⟩:=zwx R (fun i=>some (i * sz,e)) (fun i=>some (i * sz,sz)) (fun i off ty m h1 h2=>by simp at h1; obtain ⟨rfl,rfl⟩:=h1; rw [hsz] at h2; cases h2; rfl) parts.toList ps _ cs' _ hps hf hinit
 have g1':Instr.fill (fun i=>some (i * sz,sz)) ((Array.range (n * sz)).map (fun i=>zero[i % zero.size]!)) ((parts.map fun (i,x)=>(i,a.eval x)).toList)=some arr':=by simpa using g1
 have run:(Instr.buildSlice t n (parts.map fun (i,x)=>(i,a.eval x))).run P w=.ok (.slice (some ⟨w.heap.size,0,none⟩) n n) (w.alloc (.cells arr' e)):=by
  unfold Instr.buildSlice
  by_cases h0:n * sz=0
  ·have hz0:zero=#[]:=by rw [hzero,if_pos h0]
   rw [hz0] at g1'
   simp only [Sem.run_bind,run_underlying ht,zY hsz,Result.andThen_ok]
   simp [h0] at g1' ⊢
   simp [g1',newRow]
  ·have hz0:zero=zv.cells:=by rw [hzero,if_neg h0]
   rw [hz0] at g1'
   simp only [Sem.run_bind,run_underlying ht,zY hsz,Result.andThen_ok]
   have hnb:¬ (16777216 < n * sz):=by omega
   have g1'':Instr.fill (fun i=>some (i * sz,sz)) ((Array.range (n * sz)).map (fun i=>zv.cells[i % zv.cells.size]!)) (List.map (fun x=>(x.fst,a.eval x.snd)) parts.toList)=some arr':=by simpa using g1'
   simp [h0,hnb,zeroValue,typeInfo,hi,hzv,g1'',newRow]
 refine .value (u:=.slice (some ⟨w.heap.size,0,none⟩) n n) (w':=w.alloc (.cells arr' e)) (by simp [execOp,hop,run]) ?_
 have hl':cs'.length=n * sz:=by
  have h1:=g2.1
  have h2:∀ (ps:List (Nat × Nat × Src)) (cs cs':List V),zb4 σ ps cs=some cs'→cs'.length=cs.length:=by
   intro ps
   induction ps with
   | nil=>intro cs cs' h; cases h; rfl
   | cons p ps ih =>
    obtain ⟨off,m,x⟩:=p
    intro cs cs' h
    simp only [zb4,Option.bind_eq_bind,Option.bind_eq_some_iff] at h
    obtain ⟨v,_,h⟩:=h
    split at h
    ·rename_i hc
     rw [ih _ _ h,zlG (by omega)]
    ·cases h
  rw [h2 _ _ _ hf,zap (sz:=sz) (fun x hx=>by rw [List.eq_of_mem_replicate hx]; exact hzl')]; simp
 obtain ⟨q1,q2⟩:=zuj g2
 by_cases hc:n=0∧pin=true
 ·rw [if_pos hc] at h
  cases h
  obtain ⟨rfl,_⟩:=hc
  obtain ⟨F,R'⟩:=R.newGs (.slot 0 0) 0 arr' e
  exact ⟨_,_,R'.put o.dst (fun _ _=>.fr0 sz _),fun _ _=>rfl⟩
 rw [if_neg hc] at h
 have key:=zpy R h (arr:=arr') (T:=e) (c:=n) (za9 _ _ _ (by omega)) (by rw [zC]; exact Nat.le_refl _) (fun _ he=>by rw [← zC sz n cs',he]; rfl) (by omega) (fun j v hv=>by
  rw [y9,List.take_of_length_le (by omega)] at hv
  exact q2 j v hv)
 rw [zC] at key
 exact key
theorem zm2 {t:TypeId} {b:Bool} {n:Nat} (h1:zaw P t=some b) (h2:zH P t=some n) {k q:Nat} (us:List Value) (hb1:b=true→us.length=n) (hb2:b=false→us.length=1) (hc:∀ (j:Nat) (u:Value),us[j]?=some u→w.cell? ⟨k,q+j,none⟩=some u) {o:Oper} {x:Operand} (hop:o.op=.load t x) (hx:a.eval x=.pointer (some ⟨k,q,none⟩)) :
  (execOp a.eval o).run P w=.ok (.value (if b then .agg us.toArray else us.getD 0 undef)) w:=by
 have hl:=run_loadCells_list (P:=P) w ⟨k,q,none⟩ us (fun j u hu=>by rw [zdr]; exact hc j u hu)
 simp only [execOp,hop,hx,Instr.loadAt,Instr.sureAddr,Sem.run_bind,Sem.run_pure,Result.andThen_ok,loadVar,zt5 h1]
 cases b with
 | true =>
  rw [hb1 rfl] at hl
  simp only [if_true,Sem.run_bind,zY h2,Result.andThen_ok,hl,Sem.run_pure]
 | false =>
  cases us with
  | nil=>simp at hb2
  | cons u us =>
   have:=hc 0 u rfl
   simp only [Nat.add_zero] at this
   simp [load,Sem.run,this]
theorem zt9 (R:Rel ren we ωe U O σ a w ω μ) {o:Oper} {t:TypeId} {x:Operand} (hop:o.op=.load t x) {b:Bool} {n:Nat} (h1:zaw P t=some b) (h2:zH P t=some n) {s:Src} {t1:TypeId} (hs:xt P ren t1 x=some s) {m:Nat} {cs:List V} (hg:s.get σ=.fp m cs) {v:V}
  (hv:(b=true∧n≤m∧v=.agg (cs.take n))∨(b=false∧cs[0]?=some v)):StepOk P ren we ωe U O a w o (σ.put o.dst v) nb μ:=by
 have hr:=R.opnd hs
 rw [hg] at hr
 obtain ⟨k,q,f,ex,hl,hcell,g1,g2⟩:=hr.fp_inv
 rcases hv with ⟨rfl,hn,rfl⟩ | ⟨rfl,hv⟩
 ·have hcs:∀ (j:Nat) (u:Value),((List.range n).map f)[j]?=some u→w.cell? ⟨k,q+j,none⟩=some u∧∃ c,cs[j]?=some c∧u=f j:=by
   intro j u hu
   rw [List.getElem?_map] at hu
   cases hj:(List.range n)[j]? with
   | none=>simp [hj] at hu
   | some j' =>
    have hjn:j < n:=by have:=(List.getElem?_eq_some_iff.1 hj).1; simpa using this
    have hj':j'=j:=by rw [List.getElem?_range hjn] at hj; cases hj; rfl
    subst hj'
    simp [hj] at hu
    subst hu
    have hlt:j' < cs.length:=by omega
    have:=hcell j' _ (List.getElem?_eq_getElem hlt)
    exact ⟨this.2,_,List.getElem?_eq_getElem hlt,rfl⟩
  have run:=zm2 (P:=P) (a:=a) (w:=w) h1 h2 ((List.range n).map f) (by simp) (by simp) (fun j u hu=>(hcs j u hu).1) hop ex
  refine .value run ⟨ω,μ,R.put _ (fun i _=>.pure ?_),fun _ _=>rfl⟩
  refine CellsP.agg (us:=(List.range n).map f) ⟨by simp; omega,fun i c hc=>?_⟩
  rw [List.getElem?_take] at hc
  split at hc
  ·rename_i hin
   exact ⟨f i,by simp [hin],g1 i c hc,g2 i c hc⟩
  ·cases hc
 ·have run:=zm2 (P:=P) (a:=a) (w:=w) h1 h2 [f 0] (by simp) (by simp) (fun j u hu=>by
   cases j with
   | zero=>simp at hu; subst hu; exact (hcell 0 v hv).2
   | succ j=>simp at hu) hop ex
  exact .value run ⟨ω,μ,R.put _ (fun i _=>.pure (g2 0 v hv)),fun _ _=>rfl⟩
theorem Rel.cellsAt {T:TypeId} {fr:Nat × Nat} {k:Nat} {arr:Array Value} (h:w.heap[k]?=some (.cells arr T fr)) {off n:Nat} (hl:off+n≤arr.size):∀ (j:Nat) (u:Value),((arr.toList.drop off).take n)[j]?=some u→w.cell? ⟨k,off+j,none⟩=some u:=by
 intro j u hu
 rw [List.getElem?_take] at hu
 split at hu
 ·rw [List.getElem?_drop] at hu
  rw [cell_of_row _ _ _ _ _ _ h]; simpa using hu
 ·cases hu
theorem zn5 (R:Rel ren we ωe U O σ a w ω μ) {o:Oper} {t:TypeId} {x:Operand} (hop:o.op=.load t x) {n:Nat} (h1:zaw P t=some true) (h2:zH P t=some n) {s:Src} {t1:TypeId} (hs:xt P ren t1 x=some s) {id off:Nat} (hg:s.get σ=.ptr id off) {arr:Array Value} {T:TypeId} {fr:Nat × Nat} (hb:w.heap[μ id]?=some (.cells arr T fr)) {vs:List V}
  (hl:off+n≤arr.size) (hvl:vs.length=n) (hc:∀ (j:Nat) (c:V),vs[j]?=some c→∃ u,arr[off+j]?=some u∧u.oneCell'=true∧RepP ren w (wr U ω) c u):StepOk P ren we ωe U O a w o (σ.put o.dst (.agg vs)) nb μ:=by
 have hr:=R.opnd hs
 rw [hg] at hr
 obtain ⟨L,hL,ex⟩:=hr.ptr_inv
 have run:=zm2 (P:=P) (a:=a) (w:=w) h1 h2 ((arr.toList.drop off).take n) (by simp; omega) (by simp) (Rel.cellsAt hb hl) hop ex
 refine .value run ⟨ω,μ,R.put _ (fun i _=>.pure ?_),fun _ _=>rfl⟩
 refine CellsP.agg (us:=(arr.toList.drop off).take n) ⟨by simp; omega,fun j c hcj=>?_⟩
 obtain ⟨u,g1,g2,g3⟩:=hc j c hcj
 have hjn:j < n:=by have:=(List.getElem?_eq_some_iff.1 hcj).1; omega
 refine ⟨u,?_,g2,g3⟩
 rw [List.getElem?_take,if_pos hjn,List.getElem?_drop]; simpa using g1
theorem zAt (R:Rel ren we ωe U O σ a w ω μ) {o:Oper} {t:TypeId} {x:Operand} (hop:o.op=.load t x) {n:Nat} (h1:zaw P t=some true) (h2:zH P t=some n) {s:Src} {t1:TypeId} (hs:xt P ren t1 x=some s) {id off:Nat} (hg:s.get σ=.ptr id off) {arr:Array Value} {T:TypeId} {fr:Nat × Nat} (hb:w.heap[μ id]?=some (.cells arr T fr)) {vs:List V}
  (hl:off+n≤arr.size) (hvl:vs.length=n) (hc:∀ (j:Nat) (c:V),vs[j]?=some c→∃ u,arr[off+j]?=some u∧u.oneCell'=true∧(RepP ren w (wr U ω) c u∨OwnAt (env U σ w ω μ) c u)):StepOk P ren we ωe U O a w o (σ.put o.dst (.st vs)) nb μ:=by
 have hr:=R.opnd hs
 rw [hg] at hr
 obtain ⟨L,hL,ex⟩:=hr.ptr_inv
 have run:=zm2 (P:=P) (a:=a) (w:=w) h1 h2 ((arr.toList.drop off).take n) (by simp; omega) (by simp) (Rel.cellsAt hb hl) hop ex
 refine .value run ⟨ω,μ,R.put _ (fun i _=>?_),fun _ _=>rfl⟩
 have at_:∀ (j:Nat) (c:V),vs[j]?=some c→∃ u,((arr.toList.drop off).take n)[j]?=some u∧u.oneCell'=true∧(RepP ren w (wr U ω) c u∨OwnAt (env U σ w ω μ) c u):=by
  intro j c hcj
  obtain ⟨u,g1,g2,g3⟩:=hc j c hcj
  have hjn:j < n:=by have:=(List.getElem?_eq_some_iff.1 hcj).1; omega
  refine ⟨u,?_,g2,g3⟩
  rw [List.getElem?_take,if_pos hjn,List.getElem?_drop]; simpa using g1
 have hlen:((arr.toList.drop off).take n).length=n:=by simp; omega
 refine .st vs ((arr.toList.drop off).take n) (by omega) (fun j c u hcj hu=>?_) (fun u hu=>?_)
 ·obtain ⟨u',g1,g2,g3⟩:=at_ j c hcj
  rw [hu] at g1; cases g1
  exact g3
 ·obtain ⟨j,hj,e⟩:=List.getElem_of_mem hu
  have hjv:j < vs.length:=by omega
  obtain ⟨u',g1,g2,g3⟩:=at_ j _ (List.getElem?_eq_getElem hjv)
  rw [List.getElem?_eq_getElem hj,e] at g1; cases g1
  exact g2
theorem Rep.refd {E:En} (hU:∀ β l h i,E.ω β=.gs l h→i < h→¬ E.Wr β i) {l:Loc} {v v':V} {u:Value} (h:Rep ren E l v u) (hp:v.refd=some v'):RepP ren E.w E.Wr v' u∨OwnAt E v' u:=by
 cases v with
 | own id off len sz=>cases hp; exact .inr h.ownAt
 | _=>exact .inl (h.plain hU hp)
theorem zm3 (R:Rel ren we ωe U O σ a w ω μ) {o:Oper} {t:TypeId} {x:Operand} (hop:o.op=.load t x) {n:Nat} (h1:zaw P t=some false) (h2:zH P t=some n) {s:Src} {t1:TypeId} (hs:xt P ren t1 x=some s) {id off:Nat} (hg:s.get σ=.ptr id off) {arr:Array Value} {T:TypeId} {fr:Nat × Nat} (hb:w.heap[μ id]?=some (.cells arr T fr)) {u:Value} (hu:arr[off]?=some u) {σ':St} (hR:∃ ω' μ',Rel ren we ωe U O σ' (a.put o.dst u) w ω' μ'∧∀ k,k < nb→μ' k=μ k):StepOk P ren we ωe U O a w o σ' nb μ:=by
 have hr:=R.opnd hs
 rw [hg] at hr
 obtain ⟨L,hL,ex⟩:=hr.ptr_inv
 have run:=zm2 (P:=P) (a:=a) (w:=w) h1 h2 [u] (by simp) (by simp) (fun j u' hu'=>by
  cases j with
  | zero=>simp at hu'; subst hu'; show w.cell? ⟨μ id,off+0,none⟩=_; rw [Nat.add_zero,cell_of_row _ _ _ _ _ _ hb]; exact hu
  | succ j=>simp at hu') hop ex
 exact .value run hR
theorem Rel.setCellV (R:Rel ren we ωe U O σ a w ω μ) {id:Nat} {cs:List V} (hid:σ.b[id]?=some (.live false cs)) {off:Nat} {v:V} (hv:cs[off]?=some v):Rel ren we ωe U O (σ.setB id (.live false (cs.set off v.dem))) a w ω μ:=by
 have hlt:id < σ.b.length:=(List.getElem?_eq_some_iff.1 hid).1
 have hne:cs≠[]:=by rintro rfl; simp at hv
 obtain ⟨e0,arr,T,e1,e2,e3⟩:=R.live hid hne
 obtain ⟨F,key⟩:=R.write hid hne (cs':=cs.set off v.dem) (by simp) e1 rfl e1 (fun k _=>rfl) (Kept.refl _ w)
 refine key (fun j c hc=>?_)
 by_cases hj:j=off
 ·subst hj
  rw [List.getElem?_set_self (List.getElem?_eq_some_iff.1 hv).1] at hc
  cases hc
  obtain ⟨u,g1,g2,_,g4⟩:=e3 j v hv
  refine ⟨u,g1,g2,by simp,Rep.frame0 F (fun l=>g4.dem R.hU l) (fun x xs=>?_) _⟩
  cases v with
  | tup vs=>cases vs <;> simp [V.dem]
  | _=>simp [V.dem]
 ·rw [List.getElem?_set_ne (fun e=>hj e.symm)] at hc
  obtain ⟨u,g1,g2,g3,g4⟩:=e3 j c hc
  exact ⟨u,g1,g2,by simp,g4.frame F (fun l β h _ e=>⟨e,rfl⟩)⟩
theorem Rel.takenCell (R:Rel ren we ωe U O σ a w ω μ) {id:Nat} {cs:List V} (hid:σ.b[id]?=some (.live false cs)) {off:Nat} {v:V} (hv:cs[off]?=some v) {u:Value} (hr:Rep ren (env U σ w ω μ) (.cell id off) v u) (l':Loc) :
  ∃ ω',Rel ren we ωe U O (σ.setB id (.live false (cs.set off v.dem))) a w ω' μ∧Rep ren (env U (σ.setB id (.live false (cs.set off v.dem))) w ω' μ) l' v.tk u:=by
 have hlt:id < σ.b.length:=(List.getElem?_eq_some_iff.1 hid).1
 have R1:=R.setCellV hid hv
 have hne:cs≠[]:=by rintro rfl; simp at hv
 obtain ⟨e0,arr,T,e1,e2,e3⟩:=R.live hid hne
 obtain ⟨F1,_⟩:=R.write hid hne (cs':=cs.set off v.dem) (by simp) e1 rfl e1 (fun k _=>rfl) (Kept.refl _ w)
 have hbl:yz (σ.b.set id (.live false (cs.set off v.dem)))=yz σ.b:=by
  funext k
  unfold yz
  by_cases hk:k=id
  ·subst hk; rw [List.getElem?_set_self hlt,hid]; simp
  ·rw [List.getElem?_set_ne (fun e=>hk e.symm)]
 have plain:(∀ sz es,v≠.gs sz es)→∃ ω',Rel ren we ωe U O (σ.setB id (.live false (cs.set off v.dem))) a w ω' μ∧Rep ren (env U (σ.setB id (.live false (cs.set off v.dem))) w ω' μ) l' v.tk u:=by
  intro hne
  refine ⟨ω,R1,?_⟩
  have e:v.tk=v.dem:=by cases v <;> first | rfl | exact absurd rfl (hne _ _)
  rw [e]
  refine Rep.frame0 F1 (fun l=>hr.dem R.hU l) (fun x xs=>?_) _
  cases v with
  | tup vs=>cases vs <;> simp [V.dem]
  | _=>simp [V.dem]
 cases v with
 | gs sz es =>
  cases hr with
  | pure h=>cases h with
   | nil _ A=>exact ⟨ω,R1,.pure (.nil _ _)⟩
  | gs _ _ β c arr' T' f hω hb hc hn hsz hcell h1 h =>
   have hβ:ω β=.gs (.cell id off) (es.length * sz):=hω
   have F:=zoW U (σ.setB id (.live false (cs.set off (V.gs sz es).dem))) w μ hβ l'
   have R2:=R1.relabel (l:=.cell id off) hβ l' (fun t v hj hl=>by cases hl) (fun id' j p cs' v' hb' hc' hl u' hr'=>by
    cases hl
    simp only [St.setB] at hb'
    rw [List.getElem?_set_self hlt] at hb'
    cases hb'
    rw [List.getElem?_set_self (List.getElem?_eq_some_iff.1 hv).1] at hc'
    cases hc'
    refine Rep.frame0 F (fun l=>?_) (by simp [V.dem]) _
    cases hr' with
    | pure h=>exact .pure h)
   exact ⟨_,R2,.gs sz es β c arr' T' f (yH _ _ _) hb hc hn hsz hcell h1 (fun i v hv=>((h i v hv).mono F1.st).mono F.st)⟩
 | _=>exact plain (by simp)
theorem zCQ {vs:List V}:∀ {cs:List V},cs.mapM V.plain=some vs→vs.length=cs.length∧∀ (j:Nat) (c:V),vs[j]?=some c→∃ c0,cs[j]?=some c0∧c0.plain=some c:=by
 intro cs h
 refine ⟨zb6 h,fun j c hc=>?_⟩
 have hlt:j < cs.length:=by rw [← zb6 h]; exact (List.getElem?_eq_some_iff.1 hc).1
 obtain ⟨b,hb,hb'⟩:=zhf h j _ (List.getElem?_eq_getElem hlt)
 rw [hc] at hb; cases hb
 exact ⟨_,List.getElem?_eq_getElem hlt,hb'⟩
theorem zDk {vs:List V}:∀ {cs:List V},cs.mapM V.refd=some vs→vs.length=cs.length∧∀ (j:Nat) (c:V),vs[j]?=some c→∃ c0,cs[j]?=some c0∧c0.refd=some c:=by
 intro cs h
 refine ⟨zb6 h,fun j c hc=>?_⟩
 have hlt:j < cs.length:=by rw [← zb6 h]; exact (List.getElem?_eq_some_iff.1 hc).1
 obtain ⟨b,hb,hb'⟩:=zhf h j _ (List.getElem?_eq_getElem hlt)
 rw [hc] at hb; cases hb
 exact ⟨_,List.getElem?_eq_getElem hlt,hb'⟩
theorem zDX (R:Rel ren we ωe U O σ a w ω μ) {o:Oper} {t:TypeId} {x:Operand} (hop:o.op=.load t x) {b:Bool} {n:Nat} (h1:zaw P t=some b) (h2:zH P t=some n) {s:Src} {t1:TypeId} (hs:xt P ren t1 x=some s) {nb:Nat} {cb:CB} {take pin:Bool} {σ':St} (h:zj cb nb σ o.dst pin (.load b n s take)=some σ'):StepOk P ren we ωe U O a w o σ' nb μ:=by
 simp only [zj] at h
 split at h
 ·rename_i id off hg
  split at h
  ·rename_i p cs hb
   rcases R.bs id p cs hb with h0 | hbs
   ·subst h0
    split at h
    ·rename_i hagg
     subst hagg
     split at h
     ·rename_i hfit
      obtain rfl:n=0:=by simp at hfit; omega
      have hr:=R.opnd hs
      rw [hg] at hr
      obtain ⟨L,hL,ex⟩:=hr.ptr_inv
      have run:=zm2 (P:=P) (a:=a) (w:=w) h1 h2 [] (by simp) (by simp) (fun j u hu=>by simp at hu) hop ex
      refine .value run ⟨ω,μ,?_,fun _ _=>rfl⟩
      split at h
      ·cases h; exact R.put _ (fun i _=>.pure (.agg _ [] (by simp) (by simp) (by simp)))
      ·split at h
       ·simp at h; subst h; exact R.put _ (fun i _=>.st _ [] (by simp) (by simp) (by simp))
       ·simp at h; subst h; exact R.put _ (fun i _=>.pure (.agg _ [] (by simp) (by simp) (by simp)))
     ·cases h
    ·simp at h
   obtain ⟨e0,arr,T,e1,e2,e3⟩:=hbs
   split at h
   ·rename_i hagg
    subst hagg
    split at h
    ·rename_i hfit
     split at h
     ·rename_i hp
      subst hp
      cases h
      refine zn5 R hop h1 h2 hs hg e1 (by omega) (by simp; omega) (fun j c hc=>?_)
      rw [List.getElem?_take] at hc
      split at hc
      ·rw [List.getElem?_drop] at hc
       obtain ⟨u,g1,g2,g3,_⟩:=e3 _ c hc
       exact ⟨u,g1,g2,g3 rfl⟩
      ·cases hc
     split at h
     ·simp only [Option.bind_eq_bind,Option.bind_eq_some_iff,Option.some.injEq] at h
      obtain ⟨vs,hvs,rfl⟩:=h
      obtain ⟨q1,q2⟩:=zDk hvs
      refine zAt R hop h1 h2 hs hg e1 (by omega) (by rw [q1]; simp; omega) (fun j c hc=>?_)
      obtain ⟨c0,hc0,hp0⟩:=q2 j c hc
      rw [List.getElem?_take] at hc0
      split at hc0
      ·rw [List.getElem?_drop] at hc0
       obtain ⟨u,g1,g2,g3,g4⟩:=e3 _ c0 hc0
       exact ⟨u,g1,g2,g4.refd R.hU hp0⟩
      ·cases hc0
     ·simp only [Option.bind_eq_bind,Option.bind_eq_some_iff,Option.some.injEq] at h
      obtain ⟨vs,hvs,rfl⟩:=h
      obtain ⟨q1,q2⟩:=zCQ hvs
      refine zn5 R hop h1 h2 hs hg e1 (by omega) (by rw [q1]; simp; omega) (fun j c hc=>?_)
      obtain ⟨c0,hc0,hp0⟩:=q2 j c hc
      rw [List.getElem?_take] at hc0
      split at hc0
      ·rw [List.getElem?_drop] at hc0
       obtain ⟨u,g1,g2,g3,g4⟩:=e3 _ c0 hc0
       exact ⟨u,g1,g2,g4.plain R.hU hp0⟩
      ·cases hc0
    ·cases h
   ·rename_i hagg
    obtain rfl:b=false:=by simpa using hagg
    split at h
    ·rename_i v hv
     obtain ⟨u,g1,g2,g3,g4⟩:=e3 _ v hv
     split at h
     ·split at h
      ·cases h
      ·rename_i hp
       obtain rfl:p=false:=by simpa using hp
       cases h
       refine zm3 R hop h1 h2 hs hg e1 g1 ?_
       cases hd:o.dst with
       | none =>
        obtain ⟨ω',R',_⟩:=R.takenCell hb hv g4 (.slot 0 0)
        exact ⟨ω',μ,R',fun _ _=>rfl⟩
       | some d =>
        obtain ⟨ω',R',hr'⟩:=R.takenCell hb hv g4 (.slot d 0)
        exact ⟨ω',μ,R'.put (some d) (fun i hi=>by cases hi; exact hr'),fun _ _=>rfl⟩
     ·cases h
      exact zm3 R hop h1 h2 hs hg e1 g1 ⟨ω,μ,R.put _ (fun i _=>g4.dem R.hU _),fun _ _=>rfl⟩
    ·cases h
  ·rename_i cs hb
   obtain ⟨e0,arr,T,fr,e1,e2,e3⟩:=R.fs id cs hb
   split at h
   ·rename_i hagg
    subst hagg
    split at h
    ·cases h
     refine zn5 R hop h1 h2 hs hg e1 (by omega) (by simp; omega) (fun j c hc=>?_)
     rw [List.getElem?_take] at hc
     split at hc
     ·rw [List.getElem?_drop] at hc
      exact e3 _ c hc
     ·cases hc
    ·cases h
   ·rename_i hagg
    obtain rfl:b=false:=by simpa using hagg
    split at h
    ·rename_i v hv
     cases h
     obtain ⟨u,g1,g2,g3⟩:=e3 _ v hv
     exact zm3 R hop h1 h2 hs hg e1 g1 ⟨ω,μ,R.put _ (fun i _=>.pure g3),fun _ _=>rfl⟩
    ·cases h
  ·cases h
 ·rename_i m cs hg
  split at h
  ·rename_i hagg
   split at h
   ·rename_i hn; cases h; exact zt9 R hop h1 h2 hs hg (.inl ⟨hagg,hn,rfl⟩)
   ·cases h
  ·rename_i hagg
   split at h
   ·rename_i v hv; cases h; exact zt9 R hop h1 h2 hs hg (.inr ⟨by simpa using hagg,hv⟩)
   ·cases h
 ·cases h
end
section
set_option linter.unusedVariables false
set_option linter.unusedSimpArgs false
variable {ren:Rn} {we:World} {ωe:Nat→Ow} {U:Nat→Nat→Prop} {O:Nat→Prop} {σ:St} {a:Act} {w:World} {ω:Nat→Ow} {μ:Nat→Nat} {P:Program} {nb:Nat}
theorem znn (w:World) (g:Nat) (cs:Array Value):Kept (fun k=>k=g) w (w.setRow g cs) :=
 ⟨rfl,rfl,rfl,by simp,fun k _ hn=>setRow_other w g k cs hn⟩
theorem zlJ {Wr:Nat→Nat→Prop} {cs:List V} {us:List Value} (h:CellsP ren w Wr cs us):∀ u ∈ us,u.oneCell'=true:=by
 intro u hu
 obtain ⟨i,hi,rfl⟩:=List.getElem_of_mem hu
 have hlt:i < cs.length:=by rw [h.1]; exact hi
 obtain ⟨x,hx,h1,_⟩:=h.2 i _ (List.getElem?_eq_getElem hlt)
 rw [List.getElem?_eq_getElem hi] at hx; cases hx; exact h1
theorem zlQ {t:TypeId} {n:Nat} (h2:zH P t=some n) {o:Oper} {x y:Operand} (hop:o.op=.store t x y) {k q:Nat} (hx:a.eval x=.pointer (some ⟨k,q,none⟩)) (hn:(a.eval y).cells.size=n) {arr:Array Value} {T:TypeId} (hb:w.heap[k]?=some (.cells arr T (0,0))) (hfit:q+n≤arr.size) (h1:∀ v ∈ (a.eval y).cells.toList,v.oneCell'=true) :
  (execOp a.eval o).run P w=.ok .skip (w.setRow k (arr.toList.take q++(a.eval y).cells.toList++arr.toList.drop (q+(a.eval y).cells.toList.length)).toArray):=by
 have hst:=run_storeCells_at P k q T (a.eval y).cells.toList 0 arr w hb (by simp; omega) h1
 simp only [Nat.add_zero] at hst
 simp only [execOp,hop,hx,Instr.storeAt,Instr.sureAddr,Sem.run_bind,Sem.run_pure,Result.andThen_ok,storeVar,zY h2,hn,ne_eq,not_true_eq_false,if_false,hst]
theorem Rel.writeCellsG (R:Rel ren we ωe U O σ a w ω μ) {id:Nat} {p:Bool} {cs:List V} (hid:σ.b[id]?=some (.live p cs)) (hne:cs≠[]) {arr:Array Value} {T:TypeId} (ha:w.heap[μ id]?=some (.cells arr T (0,0))) {new:List V} {us:List Value} (hul:new.length=us.length) (hn:∀ (j:Nat) (c:V),new[j]?=some c→∃ u,us[j]?=some u∧u.oneCell'=true∧(RepP ren w (wr U ω) c u∨(p=false∧OwnAt (env U σ w ω μ) c u))) {off:Nat} (hfit:off+new.length≤cs.length) :
  Rel ren we ωe U O (σ.setB id (.live p (zr cs off new))) a (w.setRow (μ id) (arr.toList.take off++us++arr.toList.drop (off+us.length)).toArray) ω μ:=by
 obtain ⟨e0,arr0,T0,e1,e2,e3⟩:=R.live hid hne
 rw [ha] at e1; cases e1
 have hsz:(arr.toList.take off++us++arr.toList.drop (off+us.length)).toArray.size=arr.size:=by simp; omega
 obtain ⟨F,key⟩:=R.write hid hne (zlG hfit) ha hsz (setRow_heap w _ arr _ T _ ha) (fun k hk=>setRow_other w _ k _ hk) (znn w _ _)
 refine key (fun j c hc=>?_)
 unfold zr at hc
 rw [ziu hfit] at hc
 have hget:(arr.toList.take off++us++arr.toList.drop (off+us.length)).toArray[j]?=if off≤j∧j < off+us.length then us[j - off]? else arr.toList[j]?:=by
  rw [List.getElem?_toArray,ziu (by simp; omega)]
 rw [hget]
 split at hc
 ·rename_i hj
  rw [if_pos (by omega)]
  obtain ⟨u,g1,g2,g3⟩:=hn _ c hc
  rcases g3 with g3 | ⟨hp,g3⟩
  ·exact ⟨u,g1,g2,fun _=>g3.mono F.st,.pure (g3.mono F.st)⟩
  ·exact ⟨u,g1,g2,fun h=>(by rw [hp] at h; cases h),(g3.frame F).rep _⟩
 ·rename_i hj
  rw [if_neg (by omega)]
  obtain ⟨u,g1,g2,g3,g4⟩:=e3 j c hc
  refine ⟨u,by simpa using g1,g2,fun hp=>(g3 hp).mono F.st,g4.frame F (fun l β h _ e=>⟨e,setRow_other w _ β _ ?_⟩)⟩
  have e:ω β=.gs l h:=e
  rintro rfl; rw [e0] at e; cases e
theorem Rel.writeCells (R:Rel ren we ωe U O σ a w ω μ) {id:Nat} {p:Bool} {cs:List V} (hid:σ.b[id]?=some (.live p cs)) (hne:cs≠[]) {arr:Array Value} {T:TypeId} (ha:w.heap[μ id]?=some (.cells arr T (0,0))) {new:List V} {us:List Value} (hn:CellsP ren w (wr U ω) new us) {off:Nat} (hfit:off+new.length≤cs.length) :
  Rel ren we ωe U O (σ.setB id (.live p (zr cs off new))) a (w.setRow (μ id) (arr.toList.take off++us++arr.toList.drop (off+us.length)).toArray) ω μ :=
 R.writeCellsG hid hne ha hn.1 (fun j c hc=>by obtain ⟨u,g1,g2,g3⟩:=hn.2 j c hc; exact ⟨u,g1,g2,.inl g3⟩) hfit
theorem zk9 {id:Nat} {x:B} (h:σ.b[id]?=some x):σ.setB id x=σ:=by
 obtain ⟨hlt,rfl⟩:=List.getElem?_eq_some_iff.1 h
 cases σ
 simp [St.setB]
theorem zoe {t:TypeId} (h2:zH P t=some 0) {o:Oper} {x y:Operand} (hop:o.op=.store t x y) {k q:Nat} (hx:a.eval x=.pointer (some ⟨k,q,none⟩)) (hn:(a.eval y).cells.size=0):(execOp a.eval o).run P w=.ok .skip w:=by
 have e:(a.eval y).cells.toList=[]:=by
  have:(a.eval y).cells.toList.length=0:=by simpa using hn
  exact List.length_eq_zero_iff.1 this
 simp only [execOp,hop,hx,Instr.storeAt,Instr.sureAddr,Sem.run_bind,Sem.run_pure,Result.andThen_ok,storeVar,zY h2,hn,ne_eq,not_true_eq_false,if_false,e,storeCells]
theorem zFx {v:V} (h1:∀ vs,v≠.tup vs) (h2:∀ p cs,v≠.bx p cs) (h3:∀ s es,v≠.fr s es):v.tk=v:=by
 cases v <;> first | rfl | exact absurd rfl (h1 _) | exact absurd rfl (h2 _ _) | exact absurd rfl (h3 _ _)
theorem Rep.one {E:En} {l:Loc} {v:V} {u:Value} (h:Rep ren E l v u) (h0:v≠.junk) (h1:∀ vs,v≠.tup vs) (h2:∀ cs,v≠.agg cs) (h3:∀ cs,v≠.st cs):u.oneCell'=true∧u.cells=#[u]:=by
 cases h with
 | pure h =>
  cases h with
  | sc _ h=>refine ⟨h,?_⟩; cases u <;> first | rfl | exact absurd h (by simp [Value.oneCell'])
  | agg cs _ _ _ _=>exact absurd rfl (h2 cs)
  | sl _ _ _ _ _ _ _ _ _ _ _ _ _=>exact ⟨rfl,rfl⟩
  | nil _ _=>exact ⟨rfl,rfl⟩
  | fn _ _ _=>exact ⟨rfl,rfl⟩
 | gs _ _ _ _ _ _ _ _ _ _ _ _ _ _ _=>exact ⟨rfl,rfl⟩
 | fr _ _ _ _ _ _ _ _ _ _ _ _ _ _ _=>exact ⟨rfl,rfl⟩
 | fr0 _ _=>exact ⟨rfl,rfl⟩
 | ub b=>exact ⟨rfl,rfl⟩
 | mp _ _ _=>exact ⟨rfl,rfl⟩
 | bx _ _ _ _ _ _ _ _ _ _ _ _=>exact ⟨rfl,rfl⟩
 | own _ _ _ _ _ _ _ _ _ _ _=>exact ⟨rfl,rfl⟩
 | cut _ _ _ _ _ _ _ _ _ _ _ _=>exact ⟨rfl,rfl⟩
 | ptr _ _ _ _=>exact ⟨rfl,rfl⟩
 | fp _ _ _ _ _ _ _ _ _=>exact ⟨rfl,rfl⟩
 | fn _ _ _ _ _ _ _=>exact ⟨rfl,rfl⟩
 | tup vs _ _ _=>exact absurd rfl (h1 vs)
 | st cs _ _ _ _=>exact absurd rfl (h3 cs)
 | junk=>exact absurd rfl h0
theorem zCH (R:Rel ren we ωe U O σ a w ω μ) {o:Oper} {t:TypeId} {x y:Operand} (hop:o.op=.store t x y) {n:Nat} (h2:zH P t=some n) {sx sy:Src} {t1 t2:TypeId} (hs:xt P ren t1 x=some sx) (hs2:xt P ren t2 y=some sy) {nb:Nat} {cb:CB} {pin:Bool} {σ':St} (h:zj cb nb σ o.dst pin (.store n sx sy)=some σ'):StepOk P ren we ωe U O a w o σ' nb μ:=by
 simp only [zj] at h
 split at h
 ·cases h
 ·rename_i hdst
  have hdst:o.dst=none:=by simpa using hdst
  split at h
  ·rename_i id off hg
   have hr:=R.opnd hs
   rw [hg] at hr
   obtain ⟨L,hL,ex⟩:=hr.ptr_inv
   split at h
   ·rename_i cs hb
    simp only [Option.bind_eq_bind,Option.bind_eq_some_iff] at h
    obtain ⟨v,hv,h⟩:=h
    split at h
    ·rename_i hc
     cases h
     have hrv:=(R.opnd hs2).plain R.hU hv
     have hcp:=hrv.cellsP
     have hsz:(a.eval y).cells.size=n:=by have:=hcp.1; simp at this; omega
     by_cases hne:cs=[]
     ·have h0:=hne
      subst h0
      obtain ⟨c1,c2⟩:=hc
      obtain rfl:n=0:=by simp at c2; omega
      have hvc:v.cells=[]:=List.length_eq_zero_iff.1 c1
      refine .skip (zoe h2 hop ex hsz) ⟨ω,μ,?_,fun _ _=>rfl⟩
      rw [hdst,hvc,show zr ([]:List V) off []=[] by simp [zr],zk9 hb]
      exact R
     obtain ⟨e0,arr,T,e1,e2,e3⟩:=R.live hb hne
     refine .skip (zlQ h2 hop ex hsz e1 (by omega) (zlJ hcp)) ⟨ω,μ,?_,fun _ _=>rfl⟩
     rw [hdst]
     exact R.writeCells hb hne e1 hcp (by omega)
    ·cases h
   ·rename_i cs hb
    split at h
    ·rename_i us hgv
     split at h
     ·rename_i hc
      cases h
      have hrv:=R.opnd hs2
      rw [hgv] at hrv
      have hcp:=hrv.agg_eq.cellsP
      have hsz:(a.eval y).cells.size=n:=by have:=hcp.1; simp [V.cells] at this; omega
      by_cases hne:cs=[]
      ·have h0:=hne
       subst h0
       obtain ⟨c1,c2⟩:=hc
       obtain rfl:n=0:=by simp at c2; omega
       obtain rfl:us=[]:=List.length_eq_zero_iff.1 c1
       refine .skip (zoe h2 hop ex hsz) ⟨ω,μ,?_,fun _ _=>rfl⟩
       rw [hdst,show zr ([]:List V) off []=[] by simp [zr],zk9 hb]
       exact R
      obtain ⟨e0,arr,T,e1,e2,e3⟩:=R.live hb hne
      refine .skip (zlQ h2 hop ex hsz e1 (by omega) (zlJ hcp)) ⟨ω,μ,?_,fun _ _=>rfl⟩
      rw [hdst]
      exact R.writeCells hb hne e1 hcp (by show off+us.length≤_; omega)
     ·cases h
    ·rename_i us hgv
     split at h
     ·rename_i hc
      cases h
      have hrv:=R.opnd hs2
      rw [hgv] at hrv
      obtain ⟨vs,eu,hvl,hcell,hone⟩:=hrv.st_inv
      have hsz:(a.eval y).cells.size=n:=by rw [eu]; simp [Value.cells]; omega
      by_cases hne:cs=[]
      ·have h0:=hne
       subst h0
       obtain ⟨c1,c2⟩:=hc
       obtain rfl:n=0:=by simp at c2; omega
       obtain rfl:us=[]:=List.length_eq_zero_iff.1 c1
       refine .skip (zoe h2 hop ex hsz) ⟨ω,μ,?_,fun _ _=>rfl⟩
       rw [hdst,show zr ([]:List V) off []=[] by simp [zr],zk9 hb]
       exact R
      obtain ⟨e0,arr,T,e1,e2,e3⟩:=R.live hb hne
      have ecl:(a.eval y).cells.toList=vs:=by rw [eu]; simp [Value.cells]
      refine .skip (zlQ h2 hop ex hsz e1 (by omega) (by rw [ecl]; exact hone)) ⟨ω,μ,?_,fun _ _=>rfl⟩
      rw [hdst,ecl]
      refine R.writeCellsG hb hne e1 hvl (fun j c hj=>?_) (by omega)
      have hlt:j < vs.length:=by rw [← hvl]; exact (List.getElem?_eq_some_iff.1 hj).1
      refine ⟨vs[j],List.getElem?_eq_getElem hlt,hone _ (List.getElem_mem hlt),?_⟩
      rcases hcell j c _ hj (List.getElem?_eq_getElem hlt) with q | q
      ·exact .inl q
      ·exact .inr ⟨rfl,q⟩
     ·cases h
    ·cases h
    ·cases h
    ·cases h
    ·cases h
    ·rename_i n1 n0 n2 n3 n4 n5
     split at h
     ·rename_i hc
      obtain ⟨hn1,hlt⟩:=hc
      cases h
      have hne:cs≠[]:=by rintro rfl; simp at hlt
      obtain ⟨e0,arr,T,e1,e2,e3⟩:=R.live hb hne
      obtain ⟨c1,c2⟩:=R.opndC hs2
      obtain ⟨ω',F,R',hr',hw⟩:=R.taken sy (R.opnd hs2) c1 c2 (.cell id off)
      have htk:(sy.get σ).tk=sy.get σ:=zFx (fun vs e=>n2 vs e) (fun p cs e=>n3 p cs e) (fun s es e=>n4 s es e)
      rw [htk] at hr'
      obtain ⟨one,hcl⟩:=(R.opnd hs2).one (fun e=>n5 e) (fun vs e=>n2 vs e) (fun cs e=>n1 cs e) (fun cs e=>n0 cs e)
      have hb':(σ.demote sy).b[id]?=some (.live false cs):=by cases sy <;> exact hb
      refine .skip (zlQ h2 hop ex (by rw [hcl]; simp [hn1]) e1 (by omega) (by rw [hcl]; simpa using one)) ?_
      rw [hdst,hcl]
      have hsz:(arr.toList.take off++#[a.eval y].toList++arr.toList.drop (off+#[a.eval y].toList.length)).toArray.size=arr.size:=by simp; omega
      obtain ⟨e0',arr',T',e1',e2',e3'⟩:=R'.live hb' hne
      rw [e1] at e1'; cases e1'
      obtain ⟨F2,key⟩:=R'.write hb' hne (cs':=cs.set off (sy.get σ)) (by simp) e1 hsz (setRow_heap w _ arr _ T _ e1) (fun k hk=>setRow_other w _ k _ hk) (znn w _ _)
      refine ⟨ω',μ,key (fun j c hc=>?_),fun _ _=>rfl⟩
      have hget:(arr.toList.take off++#[a.eval y].toList++arr.toList.drop (off+#[a.eval y].toList.length)).toArray[j]?=if j=off then some (a.eval y) else arr.toList[j]?:=by
       rw [List.getElem?_toArray,ziu (by simp; omega)]
       by_cases hj:j=off
       ·subst hj; simp
       ·rw [if_neg (by simp; omega),if_neg hj]
      rw [hget]
      have en:env U (σ.demote sy) w ω' μ=env U σ w ω' μ:=by cases sy <;> rfl
      by_cases hj:j=off
      ·subst hj
       rw [List.getElem?_set_self hlt] at hc
       cases hc
       rw [if_pos rfl]
       refine ⟨_,rfl,one,by simp,?_⟩
       rw [en] at F2
       refine hr'.frame F2 (fun l β h _ e=>⟨e,setRow_other w _ β _ ?_⟩)
       have e:ω' β=.gs l h:=e
       rintro rfl; rw [e0'] at e; cases e
      ·rw [List.getElem?_set_ne (fun e=>hj e.symm)] at hc
       rw [if_neg hj]
       obtain ⟨u,g1,g2,g3,g4⟩:=e3' j c hc
       refine ⟨u,by simpa using g1,g2,by simp,g4.frame F2 (fun l β h _ e=>⟨e,setRow_other w _ β _ ?_⟩)⟩
       have e:ω' β=.gs l h:=e
       rintro rfl; rw [e0'] at e; cases e
     ·cases h
   ·cases h
  ·cases h
theorem zCR (R:Rel ren we ωe U O σ a w ω μ) {o:Oper} {t e:TypeId} {x:Operand} (hop:o.op=.call { callee:=.builtin .clear,args:=#[x],argTypes:=#[t] }) (ht:P.underlying t=some (.slice e)) {sz:Nat} (hsz:zH P e=some sz) (hpos:0 < sz) {z:List V} (hz:zf0 P e=some z) (hzl:z.length=sz) {sx:Src} {t1:TypeId} (h1:xt P ren t1 x=some sx)
  {nb:Nat} {cb:CB} {pin:Bool} {σ':St} (h:zj cb nb σ o.dst pin (.clear sz (z.map V.dem) sx)=some σ'):StepOk P ren we ωe U O a w o σ' nb μ:=by
 obtain ⟨i,zv,hi,hzv,hcz⟩:=zgU (ren:=ren) (w:=w) (Wr:=wr U ω) hz
 simp only [zj] at h
 split at h
 ·rename_i id off len sz1 hg
  split at h
  ·rename_i cs hb
   split at h
   ·rename_i hs
    subst hs
    cases h
    have hr:=R.opnd h1
    rw [hg] at hr
    obtain ⟨c,L,A,eu,hL,hl,hc,hA⟩:=hr.own_inv
    have hL':yz σ.b id=some L:=hL
    have:L=cs.length:=by simp [yz,hb] at hL'; exact hL'.symm
    subst this
    rcases Nat.eq_zero_or_pos len with q | q
    ·subst q
     have run:(execOp a.eval o).run P w=.ok (.value (.tuple #[])) w:=by
      cases A <;> simp [execOp,hop,resolve,invoke,builtin,Builtin.clear_,run_underlying ht,eu]
     refine .value run ⟨ω,μ,?_,fun _ _=>rfl⟩
     rw [show zr cs off (List.replicate 0 (z.map V.dem)).flatten=cs by simp [zr],zk9 hb]
     exact R.put _ (fun i _=>.tup [] [] rfl (by simp))
    ·rcases hA with ⟨rfl,_⟩ | ⟨h0,_⟩
     ·have hlen:sz1≤len * sz1:=Nat.le_mul_of_pos_left sz1 q
      have hne:cs≠[]:=by rintro rfl; simp at hl; omega
      obtain ⟨e0,arr,T,e1,e2,e3⟩:=R.live hb hne
      have hd:=ziA hcz
      have hzs:zv.cells.size=sz1:=by have:=hcz.1; simp at this; omega
      have hcells:=zkl hd len (len * sz1) (by simp [hzl]) (by simp [hzl]; exact hpos)
      have hfl:(List.replicate len (z.map V.dem)).flatten.length=len * sz1:=by
       rw [zap (sz:=sz1) (fun x hx=>by rw [List.eq_of_mem_replicate hx]; simp [hzl])]; simp
      have hnew:CellsP ren w (wr U ω) (List.replicate len (z.map V.dem)).flatten (Builtin.zeroCells zv.cells len).toList:=by
       refine ⟨by rw [hfl]; simp [Builtin.zeroCells,hzs],fun j v hv=>?_⟩
       obtain ⟨u,g1,g2,g3⟩:=hcells j v hv
       refine ⟨u,?_,g2,g3⟩
       rw [Array.getElem?_toList]
       simpa [Builtin.zeroCells,hzs] using g1
      have hzl2:(Builtin.zeroCells zv.cells len).toList.length=len * sz1:=by simp [Builtin.zeroCells,hzs]
      have hst:=run_storeCells_at P (μ id) off T (Builtin.zeroCells zv.cells len).toList 0 arr w e1 (by omega) (zlJ hnew)
      simp only [Nat.add_zero] at hst
      have hst':(storeCells (⟨(env U σ w ω μ).μ id,off,none⟩:Addr) (Builtin.zeroCells zv.cells len).toList).run P w=_:=hst
      obtain ⟨m,rfl⟩:∃ m,len=m+1:=⟨len - 1,by omega⟩
      have run:(execOp a.eval o).run P w=.ok (.value (.tuple #[])) (w.setRow (μ id) (arr.toList.take off++(Builtin.zeroCells zv.cells (m+1)).toList++arr.toList.drop (off+(Builtin.zeroCells zv.cells (m+1)).toList.length)).toArray):=by
       simp only [execOp,hop,resolve,invoke,builtin,Builtin.clear_,List.map_toArray,List.map_cons,List.map_nil,eu,Sem.run_bind,Sem.run_pure,Result.andThen_ok,run_underlying ht,zeroValue,typeInfo,hi,hzv]
       simp [run_underlying ht,zeroValue,typeInfo,hi,hzv,hst']
      refine .value run ⟨ω,μ,?_,fun _ _=>rfl⟩
      exact (R.writeCells hb hne e1 hnew (by rw [hfl]; omega)).put _ (fun i _=>.tup [] [] rfl (by simp))
     ·omega
   ·cases h
  ·cases h
 ·cases h
theorem zDl (R:Rel ren we ωe U O σ a w ω μ) {o:Oper} {t u e:TypeId} {d s:Operand} (hop:o.op=.call { callee:=.builtin .copy,args:=#[d,s],argTypes:=#[t,u] }) (ht:P.underlying t=some (.slice e)) {sz:Nat} (hsz:zH P e=some sz) (hpos:0 < sz) {sd ss:Src} {t1 t2:TypeId} (h1:xt P ren t1 d=some sd) (h2:xt P ren t2 s=some ss)
  {nb:Nat} {cb:CB} {pin:Bool} {σ':St} (h:zj cb nb σ o.dst pin (.copy sz sd ss)=some σ'):StepOk P ren we ωe U O a w o σ' nb μ:=by
 simp only [zj] at h
 split at h
 ·rename_i id off len sz1 sz2 es hg hv
  split at h
  ·rename_i cs hb
   split at h
   ·rename_i hs
    obtain ⟨rfl,rfl⟩:=hs
    cases h
    have hr:=R.opnd h1
    rw [hg] at hr
    obtain ⟨c,L,A,eu,hL,hl,hc,hA⟩:=hr.own_inv
    have hL':yz σ.b id=some L:=hL
    have:L=cs.length:=by simp [yz,hb] at hL'; exact hL'.symm
    subst this
    obtain ⟨A2,c2,f,k,q,eu2,hc2,hsz2,hA2,hcell⟩:=R.view (R.opnd h2) hv
    have hmin:Nat.min es.length len=min es.length len:=rfl
    generalize hmm:min es.length len=m at *
    have hml:m≤es.length:=by omega
    have hml2:m≤len:=by omega
    have hmle:m * sz2≤len * sz2:=Nat.mul_le_mul_right sz2 hml2
    have hflat:(es.take m).flatten.length=m * sz2:=by
     rw [zap (sz:=sz2) (fun x hx=>hsz2 x (List.mem_of_mem_take hx)),List.length_take,Nat.min_eq_left hml]
    have hnew:CellsP ren w (wr U ω) (es.take m).flatten ((List.range (m * sz2)).map f):=by
     refine ⟨by simp [hflat],fun i v hv=>?_⟩
     have hi:i < m * sz2:=by rw [← hflat]; exact (List.getElem?_eq_some_iff.1 hv).1
     rw [zs7 hsz2,List.getElem?_take,if_pos hi] at hv
     obtain ⟨g1,g2,g3⟩:=hcell i v hv
     exact ⟨f i,by simp [hi],g2,g3⟩
    by_cases hne:cs=[]
    ·have h0:=hne
     subst h0
     obtain rfl:len=0:=by
      rcases Nat.eq_zero_or_pos len with q | q
      ·exact q
      ·have:=Nat.mul_le_mul_right sz2 q
       simp at hl; omega
     obtain rfl:m=0:=by omega
     have hf:(Builtin.firstCells sz2 0 (.slice A2 es.length c2)).run P w=.ok #[] w:=by
      cases A2 <;> simp [Builtin.firstCells,loadCells,loadCellsFrom]
     have run:(execOp a.eval o).run P w=.ok (.value (.int .i64 ((0:Nat):Int))) w:=by
      cases A with
      | none=>simp [execOp,hop,resolve,invoke,builtin,Builtin.copy_,run_underlying ht,eu,eu2,Builtin.lenOf,hmin,zY hsz,hf,goInt]
      | some ad=>simp [execOp,hop,resolve,invoke,builtin,Builtin.copy_,run_underlying ht,eu,eu2,Builtin.lenOf,hmin,zY hsz,hf,goInt,storeCells]
     refine .value run ⟨ω,μ,?_,fun _ _=>rfl⟩
     rw [show zr ([]:List V) off (es.take 0).flatten=[] by simp [zr],zk9 hb]
     exact R.put _ (fun i _=>.pure (.sc _ rfl))
    obtain ⟨e0,arr,T,e1,e2,e3⟩:=R.live hb hne
    have hload:m≠0→∃ ad,A2=some ad∧(loadCells ad (m * sz2)).run P w=.ok ((List.range (m * sz2)).map f).toArray w:=by
     intro hm0
     have hne:es≠[]:=by rintro rfl; simp at hml; omega
     refine ⟨_,hA2 hne,run_loadCells w _ _ f (fun j hj=>?_)⟩
     rw [zdr]
     have hlt:j < es.flatten.length:=by
      rw [zap hsz2]
      have:=Nat.mul_le_mul_right sz2 hml
      omega
     exact (hcell j _ (List.getElem?_eq_getElem hlt)).1
    have run:(execOp a.eval o).run P w=.ok (.value (.int .i64 (m:Int))) (w.setRow (μ id) (arr.toList.take off++(List.range (m * sz2)).map f++arr.toList.drop (off+((List.range (m * sz2)).map f).length)).toArray):=by
     by_cases hm0:m=0
     ·subst hm0
      have hw:w.setRow (μ id) (arr.toList.take off++(List.range (0 * sz2)).map f++arr.toList.drop (off+((List.range (0 * sz2)).map f).length)).toArray=w:=by
       simp only [Nat.zero_mul,List.range_zero,List.map_nil,List.append_nil,List.length_nil,Nat.add_zero,List.take_append_drop,Array.toArray_toList]
       exact setRow_self w _ arr T _ e1
      rw [hw]
      have hf:(Builtin.firstCells sz2 0 (.slice A2 es.length c2)).run P w=.ok #[] w:=by
       cases A2 <;> simp [Builtin.firstCells,loadCells,loadCellsFrom]
      cases A with
      | none=>simp [execOp,hop,resolve,invoke,builtin,Builtin.copy_,run_underlying ht,eu,eu2,Builtin.lenOf,hmin,zY hsz,hf,goInt]
      | some ad=>simp [execOp,hop,resolve,invoke,builtin,Builtin.copy_,run_underlying ht,eu,eu2,Builtin.lenOf,hmin,zY hsz,hf,goInt,storeCells]
     ·obtain ⟨ad,rfl,hl2⟩:=hload hm0
      rcases hA with ⟨rfl,_⟩ | ⟨hz,_⟩
      ·have hst:=run_storeCells_at P (μ id) off T ((List.range (m * sz2)).map f) 0 arr w e1 (by simp; omega) (zlJ hnew)
       simp only [Nat.add_zero] at hst
       have hst':(storeCells (⟨(env U σ w ω μ).μ id,off,none⟩:Addr) ((List.range (m * sz2)).map f)).run P w=_:=hst
       simp [execOp,hop,resolve,invoke,builtin,Builtin.copy_,run_underlying ht,eu,eu2,Builtin.lenOf,hmin,zY hsz,Builtin.firstCells,hl2,hst',goInt]
      ·omega
    refine .value run ⟨ω,μ,?_,fun _ _=>rfl⟩
    exact (R.writeCells hb hne e1 hnew (by rw [hflat]; omega)).put _ (fun i _=>.pure (.sc _ rfl))
   ·cases h
  ·cases h
 ·cases h
end
section
set_option linter.unusedVariables false
set_option linter.unusedSimpArgs false
variable {ren:Rn} {we:World} {ωe:Nat→Ow} {U:Nat→Nat→Prop} {O:Nat→Prop} {σ:St} {a:Act} {w:World} {ω:Nat→Ow} {μ:Nat→Nat} {P:Program} {nb:Nat}
theorem Rel.sameHeap (R:Rel ren we ωe U O σ a w ω μ) {w':World} (hh:w'.heap=w.heap) (h1:w'.os=w.os) (h2:w'.tape=w.tape) (h3:w'.output=w.output):Fr (env U σ w ω μ) (env U σ w' ω μ)∧Rel ren we ωe U O σ a w' ω μ:=by
 have hc:∀ ad,w'.cell? ad=w.cell? ad:=fun ad=>by unfold World.cell?; rw [hh]
 have hrs:∀ k,yE w' k=yE w k:=fun k=>by unfold yE; rw [hh]
 have F:Fr (env U σ w ω μ) (env U σ w' ω μ):=⟨fun k o u g1 g2=>⟨g1,(hc _).trans g2⟩,fun id L hL=>⟨hL,rfl,by show yE w (μ id)≤yE w' (μ id); rw [hrs]; exact Nat.le_refl _⟩⟩
 refine ⟨F,R.step F rfl (fun t j β h _ e=>⟨e,by rw [hh]⟩) (fun id p cs h hne=>.inl ⟨h,(R.live h hne).1,by rw [hh],fun j β h e=>⟨e,by rw [hh]⟩⟩) (fun id cs h=>.inl ⟨h,(R.fs id cs h).1,by rw [hh]⟩) (fun id es h=>.inl ⟨h,(R.ms id es h).1,by rw [hh]⟩) (O':=No) ⟨h1,h2,h3,by rw [hh]; exact Nat.le_refl _,fun k _ _=>by rw [hh]⟩ (fun k _ h=>znB h) (fun k hk=>by rw [hh]; exact R.ow k hk) (fun k=>by rw [hrs]; exact Nat.le_refl _)⟩
theorem Rel.drew (R:Rel ren we ωe U O σ a w ω μ):Fr (env U σ w ω μ) (env U σ w.drew ω μ)∧Rel ren we ωe U O σ a w.drew ω μ:=R.sameHeap rfl rfl rfl rfl
theorem Rel.grow (R:Rel ren we ωe U O σ a w ω μ) {T j0:Nat} (hT:σ.t.length≤T) {β h:Nat} (hβ:ω β=.gs (.slot T j0) h) {arr arr':Array Value} {Ty:TypeId} (hb:w.heap[β]?=some (.cells arr Ty (0,0))) (hs:arr'.size=arr.size) (hsame:∀ i,i < h→arr'[i]?=arr[i]?) :
  Fr (env U σ w ω μ) (env U σ (w.setRow β arr') ω μ)∧Rel ren we ωe U O σ a (w.setRow β arr') ω μ:=by
 have hnew:=setRow_heap w β arr arr' Ty _ hb
 have hoth:=fun k (hk:k≠β)=>setRow_other w β k arr' hk
 have F:Fr (env U σ w ω μ) (env U σ (w.setRow β arr') ω μ):=by
  refine ⟨fun k o u h1 h2=>⟨h1,?_⟩,fun id L hL=>⟨hL,rfl,?_⟩⟩
  ·by_cases hk:k=β
   ·subst hk
    have h1:¬ wr U ω k o:=h1
    have ho:o < h:=by
     unfold wr at h1
     rw [hβ] at h1
     simp only [not_or] at h1
     omega
    have h2:w.cell? ⟨k,o,none⟩=some u:=h2
    show (w.setRow k arr').cell? ⟨k,o,none⟩=some u
    rw [cell_of_row _ _ _ _ _ _ hb] at h2
    rw [cell_of_row _ _ _ _ _ _ hnew,hsame o ho]; exact h2
   ·exact (World.cell?_of_block (a:=⟨k,o,none⟩) (hoth k hk)).trans h2
  ·show yE w (μ id)≤yE (w.setRow β arr') (μ id)
   by_cases hk:μ id=β
   ·rw [hk,zbf hb,zbf hnew,hs]; exact Nat.le_refl _
   ·unfold yE; rw [hoth _ hk]; exact Nat.le_refl _
 refine ⟨F,R.step F rfl (fun t j β2 h2 ht e=>⟨e,hoth β2 ?_⟩) (fun id p cs h' hne=>.inl ⟨h',(R.live h' hne).1,hoth _ ?_,fun j β2 h2 e=>⟨e,hoth β2 (by rintro rfl; rw [hβ] at e; cases e)⟩⟩) (fun id cs h'=>?_) (fun id es h'=>.inl ⟨h',(R.ms id es h').1,hoth _ (by intro e; have:=(R.ms id es h').1; rw [e,hβ] at this; cases this)⟩) (znn w β arr') (fun k hk1 hk2=>?_) (fun k hk=>by rw [setRow_size]; exact R.ow k hk) (fun k=>?_)⟩
 ·rintro rfl
  rw [hβ] at e; cases e
  omega
 ·intro e
  have:=(R.live h' hne).1
  rw [e,hβ] at this; cases this
 ·by_cases hk:μ id=β
  ·obtain ⟨e0,arr0,T0,fr0,e1,e2,e3⟩:=R.fs id cs h'
   exfalso
   rw [hk] at e0
   exact e0 h (.inr (by rw [hβ]; exact Nat.le_refl _))
  ·exact .inl ⟨h',(R.fs id cs h').1,hoth _ hk⟩
 ·subst hk2
  rcases (R.ow k (by rw [hβ]; simp)).1 with h | h
  ·omega
  ·exact h
 ·by_cases hk:k=β
  ·rw [hk,zbf hb,zbf hnew,hs]; exact Nat.le_refl _
  ·unfold yE; rw [hoth _ hk]; exact Nat.le_refl _
theorem znJ {sz n:Nat} {A:Option Addr} {len cap:Nat} (xs:List Value) (hl:xs.length=n * sz) (h:xs≠[]→∃ ad,A=some ad∧∀ (j:Nat) (u:Value),xs[j]?=some u→w.cell? (ad.add j)=some u):(Builtin.firstCells sz n (.slice A len cap)).run P w=.ok xs.toArray w:=by
 cases A with
 | none =>
  have:xs=[]:=by
   cases xs with
   | nil=>rfl
   | cons x xs=>obtain ⟨ad,e,_⟩:=h (by simp); cases e
  subst this
  simp [Builtin.firstCells]
 | some ad =>
  have hl':=run_loadCells_list (P:=P) w ad xs (fun j u hu=>by
   have hne:xs≠[]:=by rintro rfl; simp at hu
   obtain ⟨ad',e,hc⟩:=h hne
   cases e; exact hc j u hu)
  rw [hl] at hl'
  simp only [Builtin.firstCells,hl']
theorem zhd {t ty e:TypeId} {i:TypeInfo} {z:Value} (ht:P.underlying t=some (.slice e)) (hi:P.info? e=some i) (hz:i.zero=some z) {A B:Option Addr} {sLen sCap m c2:Nat} {olds news:List Value} (hol:olds.length=sLen * i.size) (hold:olds≠[]→∃ ad,A=some ad∧∀ (j:Nat) (u:Value),olds[j]?=some u→w.cell? (ad.add j)=some u)
  (hnl:news.length=m * i.size) (hnew:news≠[]→∃ ad,B=some ad∧∀ (j:Nat) (u:Value),news[j]?=some u→w.cell? (ad.add j)=some u) (hg:sCap < sLen+m) (hb:(sLen+m) * i.bytes≤140737488355328) (h63:sLen+m≤140737488355328) :
  (Builtin.append_ #[t,t] ty #[.slice A sLen sCap,.slice B m c2]).run P w =
   .ok (.slice (some ⟨w.heap.size,0,none⟩) (sLen+m) (grownCap w (sLen+m) sCap e)) (w.drew.alloc (.cells (olds.toArray++news.toArray++Builtin.zeroCells z.cells (grownCap w (sLen+m) sCap e - (sLen+m))) e)):=by
 have hn:¬ (sLen+m≤sCap):=by omega
 have h63':¬ (9223372036854775807 < ((sLen:Int)+(m:Int))):=by omega
 have h48':¬ (281474976710656 < Builtin.nextslicecap (sLen+m) sCap * i.bytes):=by have:=growslice_fits hg hb; omega
 have hf:=znJ (P:=P) (w:=w.drew) (len:=m) (cap:=c2) news hnl (by simpa using hnew)
 have hfo:=znJ (P:=P) (w:=w.drew) (len:=sLen) (cap:=sCap) olds hol (by simpa using hold)
 simp [Builtin.append_,run_underlying ht,sizeOf,typeInfo,zeroValue,hi,hz,Builtin.lenOf,hn,h63',h48',Question.forced,hf,hfo,newRow,grownCap]
 congr 2
 apply Array.ext'
 simp [List.append_assoc]
theorem zl3 {t ty e:TypeId} {i:TypeInfo} (ht:P.underlying t=some (.slice e)) (hi:P.info? e=some i) {B:Option Addr} {g sLen sCap m c2:Nat} {cur:Array Value} {Ty:TypeId} (hgb:w.heap[g]?=some (.cells cur Ty (0,0))) {news:List Value}
  (hnl:news.length=m * i.size) (hnew:news≠[]→∃ ad,B=some ad∧∀ (j:Nat) (u:Value),news[j]?=some u→w.cell? (ad.add j)=some u) (h1:∀ u ∈ news,u.oneCell'=true) (hroom:sLen+m≤sCap) (hfit:sLen * i.size+news.length≤cur.size) :
  (Builtin.append_ #[t,t] ty #[.slice (some ⟨g,0,none⟩) sLen sCap,.slice B m c2]).run P w =
   .ok (.slice (some ⟨g,0,none⟩) (sLen+m) sCap) (w.setRow g (cur.toList.take (sLen * i.size)++news++cur.toList.drop (sLen * i.size+news.length)).toArray):=by
 have hf:=znJ (P:=P) (w:=w) (len:=m) (cap:=c2) news hnl hnew
 have hst:=run_storeCells_at P g (sLen * i.size) Ty news 0 cur w hgb (by simpa using hfit) h1
 simp only [Nat.add_zero] at hst
 simp [Builtin.append_,run_underlying ht,sizeOf,typeInfo,hi,Builtin.lenOf,hroom,hf,Addr.add_lit,hst]
theorem zfS {t ty e:TypeId} {i:TypeInfo} (ht:P.underlying t=some (.slice e)) (hi:P.info? e=some i) {A B:Option Addr} {c2:Nat} :
  (Builtin.append_ #[t,t] ty #[.slice A 0 0,.slice B 0 c2]).run P w=.ok (.slice A 0 0) w:=by
 have hf:(Builtin.firstCells i.size 0 (.slice B 0 c2)).run P w=.ok #[] w:=znJ (P:=P) (w:=w) [] (by simp) (by simp)
 cases A <;> simp [Builtin.append_,run_underlying ht,sizeOf,typeInfo,hi,Builtin.lenOf,hf,storeCells]
theorem Rep.gs_inv {E:En} {l:Loc} {sz:Nat} {es:List (List V)} {u:Value} (h:Rep ren E l (.gs sz es) u):(∃ A,es=[]∧u=.slice A 0 0) ∨
  (∃ (β c:Nat) (arr:Array Value) (T:TypeId) (f:Nat→Value),u=.slice (some ⟨β,0,none⟩) es.length c∧E.ω β=.gs l (es.length * sz)∧E.w.heap[β]?=some (.cells arr T (0,0))∧c * sz≤arr.size∧es.length≤c∧(∀ e ∈ es,e.length=sz) ∧
   (∀ (i:Nat) (v:V),es.flatten[i]?=some v→arr[i]?=some (f i))∧(∀ (i:Nat) (v:V),es.flatten[i]?=some v→(f i).oneCell'=true)∧(∀ (i:Nat) (v:V),es.flatten[i]?=some v→RepP ren E.w E.Wr v (f i))):=by
 cases h with
 | pure h=>cases h with | nil _ A=>exact .inl ⟨A,rfl,rfl⟩
 | gs _ _ β c arr T f hω hb hc hn hsz hcell h1 h=>exact .inr ⟨β,c,arr,T,f,rfl,hω,hb,hc,hn,hsz,hcell,h1,h⟩
theorem zcO {o:Oper} {t u:TypeId} {s x:Operand} (hop:o.op=.call { callee:=.builtin .append,args:=#[s,x],argTypes:=#[t,u] }) {v:Value} {w':World} (h:(Builtin.append_ #[t,u] o.type #[a.eval s,a.eval x]).run P w=.ok v w'):(execOp a.eval o).run P w=.ok (.value v) w':=by
 simp only [execOp,hop,resolve,Sem.run_bind,Sem.run_pure,Result.andThen_ok,invoke,builtin]
 have e:(#[s,x].map a.eval)=#[a.eval s,a.eval x]:=by simp
 rw [e,h]
 rfl
theorem zAF {Wr:Nat→Nat→Prop} {es es2:List (List V)} {f g:Nat→Value} {sz:Nat} (h1:∀ e ∈ es,e.length=sz) {i:Nat} {v:V} (hv:(es++es2).flatten[i]?=some v)
  (H1:∀ (i:Nat) (v:V),es.flatten[i]?=some v→(f i).oneCell'=true∧RepP ren w Wr v (f i)) (H2:∀ (i:Nat) (v:V),es2.flatten[i]?=some v→(g i).oneCell'=true∧RepP ren w Wr v (g i)) (n2:Nat) (hn2:es2.flatten.length=n2) :
  ∃ u,((List.range (es.length * sz)).map f++(List.range n2).map g)[i]?=some u∧u.oneCell'=true∧RepP ren w Wr v u:=by
 have hfl:=zap h1
 rw [List.flatten_append] at hv
 by_cases hi:i < es.flatten.length
 ·rw [List.getElem?_append_left hi] at hv
  refine ⟨f i,?_,(H1 i v hv).1,(H1 i v hv).2⟩
  rw [List.getElem?_append_left (by simp; omega)]
  simp [show i < es.length * sz by omega]
 ·rw [List.getElem?_append_right (by omega)] at hv
  have hlt:i - es.flatten.length < es2.flatten.length:=(List.getElem?_eq_some_iff.1 hv).1
  refine ⟨g (i - es.length * sz),?_,?_⟩
  ·rw [List.getElem?_append_right (by simp; omega)]
   simp only [List.length_map,List.length_range]
   rw [List.getElem?_map,List.getElem?_range (by omega)]; rfl
  ·rw [← hfl]; exact H2 _ v hv
theorem zvu (R:Rel ren we ωe U O σ a w ω μ) {o:Oper} {t u e:TypeId} {s x:Operand} (hop:o.op=.call { callee:=.builtin .append,args:=#[s,x],argTypes:=#[t,u] }) {i:TypeInfo} {zv:Value} {sz:Nat} (e2:i.size=sz) (hzs:zv.cells.size=sz)
  {ss:Src} {t1:TypeId} (h1:xt P ren t1 s=some ss) {nb:Nat} {es es2:List (List V)} (hg:ss.get σ=.gs sz es) (hs2:∀ x ∈ es2,x.length=sz) {f2:Nat→Value} (H2w:∀ (i:Nat) (v:V),es2.flatten[i]?=some v→(f2 i).oneCell'=true∧RepP ren w (wr U ω) v (f2 i))
  {σ':St} (hput:(σ.demote ss).putG nb o.dst false sz (es++es2)=some σ')
  (rG:∀ (A:Option Addr) (sLen sCap:Nat) (olds:List Value),olds.length=sLen * i.size→(olds≠[]→∃ ad,A=some ad∧∀ (j:Nat) (u:Value),olds[j]?=some u→w.cell? (ad.add j)=some u)→sCap < sLen+es2.length→sLen=es.length→sLen≤sCap →
   (Builtin.append_ #[t,u] o.type #[.slice A sLen sCap,a.eval x]).run P w=.ok (.slice (some ⟨w.heap.size,0,none⟩) (sLen+es2.length) (grownCap w (sLen+es2.length) sCap e)) (w.drew.alloc (.cells (olds.toArray++((List.range (es2.length * sz)).map f2).toArray++Builtin.zeroCells zv.cells (grownCap w (sLen+es2.length) sCap e - (sLen+es2.length))) e)))
  (rN:es2=[]→∀ A:Option Addr,(Builtin.append_ #[t,u] o.type #[.slice A 0 0,a.eval x]).run P w=.ok (.slice A 0 0) w)
  (rF:∀ (g sCap sLen:Nat) (cur:Array Value) (Ty:TypeId),w.heap[g]?=some (.cells cur Ty (0,0))→sLen+es2.length≤sCap→sLen * i.size+((List.range (es2.length * sz)).map f2).length≤cur.size →
   (Builtin.append_ #[t,u] o.type #[.slice (some ⟨g,0,none⟩) sLen sCap,a.eval x]).run P w=.ok (.slice (some ⟨g,0,none⟩) (sLen+es2.length) sCap) (w.setRow g (cur.toList.take (sLen * i.size)++(List.range (es2.length * sz)).map f2++cur.toList.drop (sLen * i.size+((List.range (es2.length * sz)).map f2).length)).toArray)):StepOk P ren we ωe U O a w o σ' nb μ:=by
 have hfl2:=zap hs2
 obtain ⟨cc1,cc2⟩:=R.opndC h1
 obtain ⟨ω1,F1,R1,hr1,hw1⟩:=R.taken ss (R.opnd h1) cc1 cc2 (.slot (σ.t.length) 0)
 have en:env U (σ.demote ss) w ω1 μ=env U σ w ω1 μ:=by cases ss <;> rfl
 have hT:(σ.demote ss).t.length≤σ.t.length:=by cases ss <;> simp [St.demote]
 rw [hg] at hr1
 have hr1:Rep ren (env U σ w ω1 μ) (.slot σ.t.length 0) (.gs sz es) (a.eval s):=hr1
 have H2:∀ (i:Nat) (v:V),es2.flatten[i]?=some v→(f2 i).oneCell'=true∧RepP ren w (wr U ω1) v (f2 i):=fun i v hv=>⟨(H2w i v hv).1,by rw [hw1]; exact (H2w i v hv).2⟩
 have hlen:(es++es2).length=es.length+es2.length:=by simp
 have growing:∀ (A:Option Addr) (cap:Nat) (f:Nat→Value),a.eval s=.slice A es.length cap→(∀ e ∈ es,e.length=sz)→(es≠[]→∃ ad,A=some ad∧∀ (j:Nat) (u:Value),((List.range (es.length * sz)).map f)[j]?=some u→w.cell? (ad.add j)=some u) →
   (∀ (i:Nat) (v:V),es.flatten[i]?=some v→(f i).oneCell'=true∧RepP ren w (wr U ω1) v (f i))→cap < es.length+es2.length→es.length≤cap→StepOk P ren we ωe U O a w o σ' nb μ:=by
  intro A cap f ex hes holds H1 hgrow hle0
  have run:=rG A es.length cap ((List.range (es.length * sz)).map f) (by simp [e2]) (fun hne=>holds (by rintro rfl; simp at hne)) hgrow rfl hle0
  refine .value (zcO hop (by rw [ex]; exact run)) ?_
  obtain ⟨Fd,Rd⟩:=R1.drew
  have hcapge:=grownCap_ge w (es.length+es2.length) cap e
  have key:=zpy (nb:=nb) (dst:=o.dst) (pin:=false) (sz:=sz) (es:=es++es2) Rd hput (arr:=((List.range (es.length * sz)).map f).toArray++((List.range (es2.length * sz)).map f2).toArray++Builtin.zeroCells zv.cells (grownCap w (es.length+es2.length) cap e - (es.length+es2.length))) (T:=e) (c:=grownCap w (es.length+es2.length) cap e)
   (fun x hx=>by rcases List.mem_append.1 hx with h | h; exact hes x h; exact hs2 x h) (by rw [hlen]; exact hcapge) (fun h=>by cases h)
   (by
    simp only [Array.size_append,List.size_toArray,List.length_map,List.length_range,size_zeroCells,hzs]
    rw [← Nat.add_mul,← Nat.add_mul]
    exact Nat.mul_le_mul_right sz (by omega))
   (fun j v hv=>by
    obtain ⟨u,g1,g2,g3⟩:=zAF (ren:=ren) (w:=w) (Wr:=wr U ω1) hes hv H1 H2 (es2.length * sz) hfl2
    refine ⟨u,?_,g2,g3.mono Fd.st⟩
    have hj:j < ((List.range (es.length * sz)).map f++(List.range (es2.length * sz)).map f2).length:=(List.getElem?_eq_some_iff.1 g1).1
    rw [Array.getElem?_append_left (by simp at hj ⊢; omega)]
    simpa using g1)
  rw [hlen] at key
  exact key
 rcases hr1.gs_inv with ⟨A,rfl,ex⟩ | ⟨β,cap,arr,Ty,f,ex,hω,hb,hcap,hn,hsz,hcell1,hone1,hrep1⟩
 ·by_cases hm:es2=[]
  ·subst hm
   simp only [St.putG,Bool.false_eq_true,if_false,Option.some.injEq] at hput
   subst hput
   have run:=rN rfl A
   refine .value (zcO hop (by rw [ex]; exact run)) ⟨ω1,μ,R1.put _ (fun i _=>.pure (.nil _ _)),fun _ _=>rfl⟩
  ·have:0 < es2.length:=List.length_pos_iff.2 hm
   exact growing A 0 (fun _=>undef) (by rw [ex]; rfl) (by simp) (by simp) (by simp) (by simpa using this) (by simp)
 ·have hes:∀ e ∈ es,e.length=sz:=hsz
  have hfl:=zap hes
  have H1:∀ (i:Nat) (v:V),es.flatten[i]?=some v→(f i).oneCell'=true∧RepP ren w (wr U ω1) v (f i):=fun i v hv=>⟨hone1 i v hv,hrep1 i v hv⟩
  have hb:w.heap[β]?=some (.cells arr Ty (0,0)):=hb
  by_cases hgrow:cap < es.length+es2.length
  ·refine growing _ cap f ex hes (fun hne=>⟨_,rfl,fun j u hu=>?_⟩) H1 hgrow hn
   have hj:j < es.length * sz:=by have:=(List.getElem?_eq_some_iff.1 hu).1; simpa using this
   simp [hj] at hu; subst hu
   rw [zdr,Nat.zero_add,cell_of_row _ _ _ _ _ _ hb]
   exact hcell1 j _ (List.getElem?_eq_getElem (by omega))
  ·have hω:ω1 β=.gs (.slot σ.t.length 0) (es.length * sz):=hω
   have hcapsz:(es.length+es2.length) * sz≤arr.size:=Nat.le_trans (Nat.mul_le_mul_right _ (by omega)) hcap
   have hle:es.length * sz+es2.length * sz≤arr.size:=by rw [← Nat.add_mul]; exact hcapsz
   have run:=rF β cap es.length arr Ty hb (by omega) (by simp [e2]; omega)
   rw [e2] at run
   refine .value (zcO hop (by rw [ex]; exact run)) ?_
   have hasz:(arr.toList.take (es.length * sz)++(List.range (es2.length * sz)).map f2++arr.toList.drop (es.length * sz+((List.range (es2.length * sz)).map f2).length)).toArray.size=arr.size:=by simp; omega
   have hget:∀ j,(arr.toList.take (es.length * sz)++(List.range (es2.length * sz)).map f2++arr.toList.drop (es.length * sz+((List.range (es2.length * sz)).map f2).length)).toArray[j]?=if es.length * sz≤j∧j < es.length * sz+es2.length * sz then ((List.range (es2.length * sz)).map f2)[j - es.length * sz]? else arr.toList[j]?:=by
    intro j
    rw [List.getElem?_toArray,ziu (by simp; omega)]
    simp
   obtain ⟨F2,R2⟩:=R1.grow hT hω hb hasz (fun j hj=>by rw [hget,if_neg (by omega)]; simp)
   simp only [St.putG,Bool.false_eq_true,if_false,Option.some.injEq] at hput
   subst hput
   cases hd:o.dst with
   | none=>exact ⟨_,_,R2,fun _ _=>rfl⟩
   | some d =>
    obtain ⟨F3,R3⟩:=R2.reown hT hω (.slot d 0) ((es++es2).length * sz) (by rw [hlen]; exact Nat.mul_le_mul_right sz (by omega))
    refine ⟨_,_,R3.put (some d) (fun j hj=>?_),fun _ _=>rfl⟩
    cases hj
    have hcells:∀ (j:Nat) (v:V),(es++es2).flatten[j]?=some v→∃ u,(arr.toList.take (es.length * sz)++(List.range (es2.length * sz)).map f2++arr.toList.drop (es.length * sz+((List.range (es2.length * sz)).map f2).length)).toArray[j]?=some u∧u.oneCell'=true∧RepP ren w (wr U ω1) v u:=by
     intro j v hv
     rw [hget]
     rw [List.flatten_append] at hv
     by_cases hj:j < es.flatten.length
     ·rw [List.getElem?_append_left hj] at hv
      rw [if_neg (by omega)]
      exact ⟨f j,by simpa using hcell1 j v hv,(H1 j v hv).1,(H1 j v hv).2⟩
     ·rw [List.getElem?_append_right (by omega)] at hv
      have hlt:j - es.flatten.length < es2.flatten.length:=(List.getElem?_eq_some_iff.1 hv).1
      rw [if_pos (by omega)]
      refine ⟨f2 (j - es.length * sz),?_,?_⟩
      ·rw [List.getElem?_map,List.getElem?_range (by omega)]; rfl
      ·rw [← hfl]; exact H2 _ v hv
    have en2:env U (σ.demote ss) w ω1 μ=env U σ w ω1 μ:=en
    have key:=Rep.gs (ren:=ren) (E:=env U (σ.demote ss) (w.setRow β (arr.toList.take (es.length * sz)++(List.range (es2.length * sz)).map f2++arr.toList.drop (es.length * sz+((List.range (es2.length * sz)).map f2).length)).toArray) (upd ω1 β (.gs (.slot d 0) ((es++es2).length * sz))) μ) (l:=.slot d 0) sz (es++es2) β cap _ Ty
     (fun j=>((arr.toList.take (es.length * sz)++(List.range (es2.length * sz)).map f2++arr.toList.drop (es.length * sz+((List.range (es2.length * sz)).map f2).length)).toArray[j]?).getD undef) (yH _ _ _) (setRow_heap w β arr _ Ty _ hb) (by rw [hasz]; exact hcap) (by rw [hlen]; omega) (fun x hx=>by rcases List.mem_append.1 hx with h | h; exact hes x h; exact hs2 x h)
     (fun j v hv=>by obtain ⟨u,g1,g2,g3⟩:=hcells j v hv; rw [g1]; rfl) (fun j v hv=>by obtain ⟨u,g1,g2,g3⟩:=hcells j v hv; rw [g1]; exact g2)
     (fun j v hv=>by obtain ⟨u,g1,g2,g3⟩:=hcells j v hv; rw [g1]; exact (g3.mono F2.st).mono F3.st)
    rwa [show Value.slice (some ⟨β,0,none⟩) (es++es2).length cap=Value.slice (some ⟨β,0,none⟩) (es.length+es2.length) cap by rw [hlen]] at key
theorem zdD (R:Rel ren we ωe U O σ a w ω μ) {o:Oper} {t u e:TypeId} {s x:Operand} (hop:o.op=.call { callee:=.builtin .append,args:=#[s,x],argTypes:=#[t,u] }) {zv:Value} {sz:Nat} (hzs:zv.cells.size=sz)
  {nb:Nat} {es2:List (List V)} {A:Option Addr} (ex:a.eval s=.slice A 0 0) (hs2:∀ x ∈ es2,x.length=sz) {f2:Nat→Value} (H2:∀ (i:Nat) (v:V),es2.flatten[i]?=some v→(f2 i).oneCell'=true∧RepP ren w (wr U ω) v (f2 i))
  {σ':St} {pin:Bool} (hput:σ.putG nb o.dst pin sz es2=some σ')
  (rG:es2≠[]→(Builtin.append_ #[t,u] o.type #[.slice A 0 0,a.eval x]).run P w=.ok (.slice (some ⟨w.heap.size,0,none⟩) (0+es2.length) (grownCap w (0+es2.length) 0 e)) (w.drew.alloc (.cells (([]:List Value).toArray++((List.range (es2.length * sz)).map f2).toArray++Builtin.zeroCells zv.cells (grownCap w (0+es2.length) 0 e - (0+es2.length))) e)))
  (rN:es2=[]→(Builtin.append_ #[t,u] o.type #[.slice A 0 0,a.eval x]).run P w=.ok (.slice A 0 0) w):StepOk P ren we ωe U O a w o σ' nb μ:=by
 have hfl2:=zap hs2
 by_cases hm:es2=[]
 ·subst hm
  refine .value (zcO hop (by rw [ex]; exact rN rfl)) ?_
  cases pin with
  | true =>
   simp only [St.putG,if_true] at hput
   obtain ⟨d,hd,hg,rfl⟩:=zf8 hput
   have hlt:nb+d < σ.b.length:=(List.getElem?_eq_some_iff.1 hg).1
   obtain ⟨F,R'⟩:=R.empty hg true
   rw [hd]
   exact ⟨_,_,R'.put (some d) (fun i hi=>.own (nb+d) 0 0 sz 0 0 A (ze7 hlt _ _) (by omega) ⟨by omega,fun _=>.inr rfl⟩ (.inr ⟨rfl,rfl⟩)),fun _ _=>rfl⟩
  | false =>
   simp only [St.putG,Bool.false_eq_true,if_false,Option.some.injEq] at hput
   subst hput
   exact ⟨ω,μ,R.put _ (fun i _=>.pure (.nil _ _)),fun _ _=>rfl⟩
 ·refine .value (zcO hop (by rw [ex]; exact rG hm)) ?_
  obtain ⟨Fd,Rd⟩:=R.drew
  have hcapge:=grownCap_ge w (0+es2.length) 0 e
  have key:=zpy (nb:=nb) (dst:=o.dst) (pin:=pin) (sz:=sz) (es:=es2) Rd hput (arr:=([]:List Value).toArray++((List.range (es2.length * sz)).map f2).toArray++Builtin.zeroCells zv.cells (grownCap w (0+es2.length) 0 e - (0+es2.length))) (T:=e) (c:=grownCap w (0+es2.length) 0 e)
   hs2 (by omega) (fun _ he=>absurd he hm)
   (by
    simp only [Array.size_append,List.size_toArray,List.length_map,List.length_range,size_zeroCells,hzs,List.length_nil,Nat.zero_add]
    rw [← Nat.add_mul]
    exact Nat.mul_le_mul_right sz (by omega))
   (fun j v hv=>by
    have hj:j < es2.length * sz:=by rw [← hfl2]; exact (List.getElem?_eq_some_iff.1 hv).1
    obtain ⟨g2,g3⟩:=H2 j v hv
    refine ⟨f2 j,?_,g2,g3.mono Fd.st⟩
    rw [Array.getElem?_append_left (by simp; omega)]
    simp [hj])
  rw [Nat.zero_add] at key ⊢
  exact key
theorem Rel.deaden (R:Rel ren we ωe U O σ a w ω μ) {id:Nat} {p:Bool} {cs:List V} (hid:σ.b[id]?=some (.live p cs)) :
  Fr (env U σ w ω μ) (env U (σ.setB id (.dead cs.length)) w ω μ)∧Rel ren we ωe U O (σ.setB id (.dead cs.length)) a w ω μ:=by
 have hlt:id < σ.b.length:=(List.getElem?_eq_some_iff.1 hid).1
 have F:Fr (env U σ w ω μ) (env U (σ.setB id (.dead cs.length)) w ω μ):=by
  refine ⟨fun k o u h1 h2=>⟨h1,h2⟩,fun id' L hL=>⟨?_,rfl,Nat.le_refl _⟩⟩
  have hL:yz σ.b id'=some L:=hL
  show yz (σ.b.set id _) id'=some L
  unfold yz at hL ⊢
  by_cases hne:id'=id
  ·subst hne; rw [List.getElem?_set_self hlt]; rw [hid] at hL; exact hL
  ·rw [List.getElem?_set_ne (fun e=>hne e.symm)]; exact hL
 refine ⟨F,R.step F rfl (fun t j β h _ e=>⟨e,rfl⟩) (fun id' p' cs' h' hne'=>?_) (fun id' cs' h'=>?_) (fun id' es' h'=>?_) (Kept.refl No w) (fun k _ h=>znB h) R.ow (fun k=>Nat.le_refl _)⟩
 ·simp only [St.setB] at h'
  by_cases hne:id'=id
  ·subst hne; rw [List.getElem?_set_self hlt] at h'; cases h'
  ·rw [List.getElem?_set_ne (fun e=>hne e.symm)] at h'
   exact .inl ⟨h',(R.live h' hne').1,rfl,fun j β h e=>⟨e,rfl⟩⟩
 ·simp only [St.setB] at h'
  by_cases hne:id'=id
  ·subst hne; rw [List.getElem?_set_self hlt] at h'; cases h'
  ·rw [List.getElem?_set_ne (fun e=>hne e.symm)] at h'
   exact .inl ⟨h',(R.fs id' cs' h').1,rfl⟩
 ·simp only [St.setB] at h'
  by_cases hne:id'=id
  ·subst hne; rw [List.getElem?_set_self hlt] at h'; cases h'
  ·rw [List.getElem?_set_ne (fun e=>hne e.symm)] at h'
   exact .inl ⟨h',(R.ms id' es' h').1,rfl⟩
theorem Rel.rehome (R:Rel ren we ωe U O σ a w ω μ) {id id2:Nat} {cs cs2:List V} (hid:σ.b[id]?=some (.live true cs)) (hne:cs≠[]) (h2:(σ.setB id (.dead cs.length)).b[id2]?=some .gone) {arr arr2:Array Value} {T:TypeId} (ha:w.heap[μ id]?=some (.cells arr T (0,0))) (hs:arr2.size=arr.size) (hl:cs2.length≤arr2.size)
  (hc:∀ (j:Nat) (c:V),cs2[j]?=some c→∃ u,arr2[j]?=some u∧u.oneCell'=true∧RepP ren w (wr U ω) c u) :
  Fr (env U σ w ω μ) (env U ((σ.setB id (.dead cs.length)).setB id2 (.live true cs2)) (w.setRow (μ id) arr2) (upd ω (μ id) (.blk id2)) (upd μ id2 (μ id))) ∧
  Rel ren we ωe U O ((σ.setB id (.dead cs.length)).setB id2 (.live true cs2)) a (w.setRow (μ id) arr2) (upd ω (μ id) (.blk id2)) (upd μ id2 (μ id)):=by
 obtain ⟨e0,arr0,T0,e1,e2,e3⟩:=R.live hid hne
 have hlt:id < σ.b.length:=(List.getElem?_eq_some_iff.1 hid).1
 have hlt2:id2 < (σ.setB id (.dead cs.length)).b.length:=(List.getElem?_eq_some_iff.1 h2).1
 have hidne:id2≠id:=by
  rintro rfl
  simp only [St.setB] at h2
  rw [List.getElem?_set_self hlt] at h2; cases h2
 have hold:∀ k,k≠id→k≠id2→((σ.setB id (.dead cs.length)).setB id2 (.live true cs2)).b[k]?=σ.b[k]?:=by
  intro k h1 h2
  simp only [St.setB]
  rw [List.getElem?_set_ne (fun e=>h2 e.symm),List.getElem?_set_ne (fun e=>h1 e.symm)]
 have hat:((σ.setB id (.dead cs.length)).setB id2 (.live true cs2)).b[id2]?=some (.live true cs2):=List.getElem?_set_self hlt2
 have hat1:((σ.setB id (.dead cs.length)).setB id2 (.live true cs2)).b[id]?=some (.dead cs.length):=by
  simp only [St.setB]
  rw [List.getElem?_set_ne hidne,List.getElem?_set_self hlt]
 have hg2:σ.b[id2]?=some .gone:=by
  simp only [St.setB] at h2
  rwa [List.getElem?_set_ne (fun e=>hidne e.symm)] at h2
 have hnew:=setRow_heap w (μ id) arr arr2 T _ ha
 have hoth:=fun k (hk:k≠μ id)=>setRow_other w (μ id) k arr2 hk
 have hw:wr U (upd ω (μ id) (.blk id2))=wr U ω:=by
  funext k o
  unfold wr
  by_cases hk:k=μ id
  ·subst hk; rw [yH,e0]
  ·rw [xv _ _ hk]
 have hgs:∀ (l:Loc) β h,ω β=.gs l h→upd ω (μ id) (.blk id2) β=.gs l h∧(w.setRow (μ id) arr2).heap[β]?=w.heap[β]?:=by
  intro l β h e
  have hne:β≠μ id:=by rintro rfl; rw [e0] at e; cases e
  exact ⟨by rw [xv _ _ hne]; exact e,hoth β hne⟩
 have F:Fr (env U σ w ω μ) (env U ((σ.setB id (.dead cs.length)).setB id2 (.live true cs2)) (w.setRow (μ id) arr2) (upd ω (μ id) (.blk id2)) (upd μ id2 (μ id))):=by
  refine ⟨fun k o u h1 h2=>?_,fun id' L hL=>?_⟩
  ·have h1:¬ wr U ω k o:=h1
   have hk:k≠μ id:=by rintro rfl; exact h1 (.inr (by rw [e0]; trivial))
   refine ⟨?_,(World.cell?_of_block (a:=⟨k,o,none⟩) (hoth k hk)).trans h2⟩
   show ¬ wr U (upd ω (μ id) (.blk id2)) k o
   rw [hw]; exact h1
  ·have hL:yz σ.b id'=some L:=hL
   have hne2:id'≠id2:=by rintro rfl; simp [yz,hg2] at hL
   refine ⟨?_,xv _ _ hne2,?_⟩
   ·show yz ((σ.setB id (.dead cs.length)).setB id2 (.live true cs2)).b id'=some L
    unfold yz at hL ⊢
    by_cases hne1:id'=id
    ·subst hne1; rw [hat1]; rw [hid] at hL; exact hL
    ·rw [hold id' hne1 hne2]; exact hL
   ·show yE w (μ id')≤yE (w.setRow (μ id) arr2) (μ id')
    by_cases hm:μ id'=μ id
    ·rw [hm,zbf ha,zbf hnew,hs]; exact Nat.le_refl _
    ·unfold yE; rw [hoth _ hm]; exact Nat.le_refl _
 refine ⟨F,R.step F rfl (fun t j β h _ e=>hgs _ β h e) (fun id' p' cs' h' hne'=>?_) (fun id' cs' h'=>?_) (fun id' es' h'=>?_) (znn w (μ id) arr2) (fun k hk1 hk2=>?_) (fun k hk=>?_) (fun k=>?_)⟩
 ·by_cases hx:id'=id2
  ·subst hx
   rw [hat] at h'; cases h'
   refine .inr ⟨by rw [yH,yH],arr2,T,by rw [yH]; exact hnew,hl,fun j c hj=>?_⟩
   obtain ⟨u,g1,g2,g3⟩:=hc j c hj
   exact ⟨u,g1,g2,fun _=>g3.mono F.st,.pure (g3.mono F.st)⟩
  ·by_cases hy:id'=id
   ·subst hy; rw [hat1] at h'; cases h'
   ·rw [hold id' hy hx] at h'
    obtain ⟨q0,_⟩:=R.live h' hne'
    have hm:μ id'≠μ id:=by intro e; rw [e,e0] at q0; cases q0; exact hy rfl
    exact .inl ⟨h',by rw [xv _ _ hm]; exact q0,hoth _ hm,fun j β h e=>hgs _ β h e⟩
 ·by_cases hx:id'=id2
  ·subst hx; rw [hat] at h'; cases h'
  ·by_cases hy:id'=id
   ·subst hy; rw [hat1] at h'; cases h'
   ·rw [hold id' hy hx] at h'
    obtain ⟨q0,_⟩:=R.fs id' cs' h'
    have hm:μ id'≠μ id:=by intro e; rw [e] at q0; exact q0 0 (.inr (by rw [e0]; trivial))
    exact .inl ⟨h',by rw [hw]; exact q0,hoth _ hm⟩
 ·by_cases hx:id'=id2
  ·subst hx; rw [hat] at h'; cases h'
  ·by_cases hy:id'=id
   ·subst hy; rw [hat1] at h'; cases h'
   ·rw [hold id' hy hx] at h'
    obtain ⟨q0,_⟩:=R.ms id' es' h'
    have hm:μ id'≠μ id:=by intro e; rw [e,e0] at q0; cases q0; exact hy rfl
    exact .inl ⟨h',by rw [xv _ _ hm]; exact q0,hoth _ hm⟩
 ·subst hk2
  rcases (R.ow (μ id) (by rw [e0]; simp)).1 with h | h
  ·omega
  ·exact h
 ·rw [setRow_size]
  by_cases hkb:k=μ id
  ·subst hkb; exact R.ow _ (by rw [e0]; simp)
  ·rw [xv _ _ hkb] at hk; exact R.ow k hk
 ·by_cases hk:k=μ id
  ·rw [hk,zbf ha,zbf hnew,hs]; exact Nat.le_refl _
  ·unfold yE; rw [hoth _ hk]; exact Nat.le_refl _
theorem Rel.unhome (R:Rel ren we ωe U O σ a w ω μ) {id:Nat} {cs:List V} (hid:σ.b[id]?=some (.live true cs)) (hne:cs≠[]) (l:Loc) (h:Nat) :
  Fr (env U σ w ω μ) (env U (σ.setB id (.dead cs.length)) w (upd ω (μ id) (.gs l h)) μ)∧Rel ren we ωe U O (σ.setB id (.dead cs.length)) a w (upd ω (μ id) (.gs l h)) μ:=by
 obtain ⟨e0,arr0,T0,e1,e2,e3⟩:=R.live hid hne
 have hlt:id < σ.b.length:=(List.getElem?_eq_some_iff.1 hid).1
 have hgs:∀ (l':Loc) β h',ω β=.gs l' h'→upd ω (μ id) (.gs l h) β=.gs l' h'∧w.heap[β]?=w.heap[β]?:=by
  intro l' β h' e
  have hne:β≠μ id:=by rintro rfl; rw [e0] at e; cases e
  exact ⟨by rw [xv _ _ hne]; exact e,rfl⟩
 have F:Fr (env U σ w ω μ) (env U (σ.setB id (.dead cs.length)) w (upd ω (μ id) (.gs l h)) μ):=by
  refine ⟨fun k o u h1 h2=>⟨?_,h2⟩,fun id' L hL=>⟨?_,rfl,Nat.le_refl _⟩⟩
  ·have h1:¬ wr U ω k o:=h1
   have hk:k≠μ id:=by rintro rfl; exact h1 (.inr (by rw [e0]; trivial))
   show ¬ wr U (upd ω (μ id) (.gs l h)) k o
   unfold wr
   rw [xv _ _ hk]; exact h1
  ·have hL:yz σ.b id'=some L:=hL
   show yz (σ.b.set id _) id'=some L
   unfold yz at hL ⊢
   by_cases hne:id'=id
   ·subst hne; rw [List.getElem?_set_self hlt]; rw [hid] at hL; exact hL
   ·rw [List.getElem?_set_ne (fun e=>hne e.symm)]; exact hL
 refine ⟨F,R.step F rfl (fun t j β h _ e=>hgs _ β h e) (fun id' p' cs' h' hne'=>?_) (fun id' cs' h'=>?_) (fun id' es' h'=>?_) (Kept.refl No w) (fun k _ h=>znB h) (fun k hk=>?_) (fun k=>Nat.le_refl _)⟩
 ·simp only [St.setB] at h'
  by_cases hne:id'=id
  ·subst hne; rw [List.getElem?_set_self hlt] at h'; cases h'
  ·rw [List.getElem?_set_ne (fun e=>hne e.symm)] at h'
   have q0:=(R.live h' hne').1
   have hm:μ id'≠μ id:=by intro e; rw [e,e0] at q0; cases q0; exact hne rfl
   exact .inl ⟨h',by rw [xv _ _ hm]; exact q0,rfl,fun j β h e=>hgs _ β h e⟩
 ·simp only [St.setB] at h'
  by_cases hne:id'=id
  ·subst hne; rw [List.getElem?_set_self hlt] at h'; cases h'
  ·rw [List.getElem?_set_ne (fun e=>hne e.symm)] at h'
   have q0:=(R.fs id' cs' h').1
   have hm:μ id'≠μ id:=by intro e; rw [e] at q0; exact q0 0 (.inr (by rw [e0]; trivial))
   refine .inl ⟨h',fun o hw=>q0 o ?_,rfl⟩
   unfold wr at hw ⊢
   rwa [xv _ _ hm] at hw
 ·simp only [St.setB] at h'
  by_cases hne:id'=id
  ·subst hne; rw [List.getElem?_set_self hlt] at h'; cases h'
  ·rw [List.getElem?_set_ne (fun e=>hne e.symm)] at h'
   have q0:=(R.ms id' es' h').1
   have hm:μ id'≠μ id:=by intro e; rw [e,e0] at q0; cases q0; exact hne rfl
   exact .inl ⟨h',by rw [xv _ _ hm]; exact q0,rfl⟩
 ·by_cases hkb:k=μ id
  ·subst hkb; exact R.ow _ (by rw [e0]; simp)
  ·rw [xv _ _ hkb] at hk; exact R.ow k hk
theorem zxp (R:Rel ren we ωe U O σ a w ω μ) {o:Oper} {x:Operand} (hop:o.op=.move x∨o.op=.assign x) {s:Src} {t:TypeId} (hs:xt P ren t x=some s) {nb:Nat} {cb:CB} {pin:Bool} {σ':St} (h:zj cb nb σ o.dst pin (.unpin s)=some σ'):StepOk P ren we ωe U O a w o σ' nb μ:=by
 have run:(execOp a.eval o).run P w=.ok (.value (a.eval x)) w:=by
  rcases hop with e | e <;> simp [execOp,e]
 cases pin with
 | true=>simp [zj] at h
 | false =>
  have h0:=h
  simp only [zj,Bool.false_eq_true,if_false] at h
  split at h
  ·rename_i id off len sz hg
   split at h
   ·rename_i cs hb
    split at h
    ·rename_i hc
     obtain ⟨rfl,hle,hn0⟩:=hc
     have hne:cs≠[]:=by rintro rfl; exact hn0 rfl
     cases h
     have hr:=R.opnd hs
     rw [hg] at hr
     obtain ⟨c,L,A,ex,hL,hl,⟨hlc,hz⟩,hA⟩:=hr.own_inv
     have hcl:=zC sz len cs
     have hce:=za9 sz len cs hle
     have hcf:=y9 sz len cs
     refine .value run ?_
     cases hd:o.dst with
     | none =>
      obtain ⟨Fd,Rd⟩:=R.deaden hb
      exact ⟨_,_,Rd,fun _ _=>rfl⟩
     | some d =>
      rcases hA with ⟨rfl,hAc⟩ | ⟨rfl,rfl⟩
      ·obtain ⟨e0,arr,T,e1,e2,e3⟩:=R.live hb hne
       have hAc:0+c * sz≤yE w (μ id):=hAc
       rw [zbf e1,Nat.zero_add] at hAc
       obtain ⟨F,R'⟩:=R.unhome hb hne (.slot d 0) (len * sz)
       refine ⟨_,_,R'.put (some d) (fun j hj=>?_),fun _ _=>rfl⟩
       cases hj
       have hcells:∀ (i:Nat) (v:V),(zh sz len cs).flatten[i]?=some v→∃ u,arr[i]?=some u∧u.oneCell'=true∧RepP ren w (wr U ω) v u:=by
        intro i v hv
        rw [hcf,List.getElem?_take] at hv
        split at hv
        ·obtain ⟨u,g1,g2,g3,_⟩:=e3 i v hv
         exact ⟨u,g1,g2,g3 rfl⟩
        ·cases hv
       have key:=Rep.gs (ren:=ren) (E:=env U (σ.setB id (.dead cs.length)) w (upd ω (μ id) (.gs (.slot d 0) (len * sz))) μ) (l:=.slot d 0) sz (zh sz len cs) (μ id) c arr T (fun j=>(arr[j]?).getD undef) (by rw [hcl]; exact yH _ _ _) e1 hAc (by rw [hcl]; exact hlc) hce
        (fun i v hv=>by obtain ⟨u,g1,g2,g3⟩:=hcells i v hv; rw [g1]; rfl)
        (fun i v hv=>by obtain ⟨u,g1,g2,g3⟩:=hcells i v hv; rw [g1]; exact g2)
        (fun i v hv=>by obtain ⟨u,g1,g2,g3⟩:=hcells i v hv; rw [g1]; exact g3.mono F.st)
       rw [hcl] at key
       rw [ex]
       exact key
      ·obtain ⟨Fd,Rd⟩:=R.deaden hb
       refine ⟨_,_,Rd.put (some d) (fun j hj=>?_),fun _ _=>rfl⟩
       rw [ex]
       exact .pure (.nil _ _)
    ·cases h
   ·cases h
  ·rename_i sz es hg
   refine zup (take:=true) (pin:=false) (cb:=cb) (nb:=nb) R hop hs ?_
   simp only [zj,Bool.false_eq_true,if_false,if_true,hg]
   exact h
  ·cases h
theorem zql (R:Rel ren we ωe U O σ a w ω μ) {x:Operand} {sx:Src} {t2:TypeId} (h2:xt P ren t2 x=some sx) {sz sz2:Nat} {es2:List (List V)} (hv:zaW σ.b (sx.get σ)=some (.sl sz2 es2)) (c2:sz2=sz∨es2=[]) :
  ∃ (B:Option Addr) (cB:Nat) (f2:Nat→Value),a.eval x=.slice B es2.length cB∧(∀ x ∈ es2,x.length=sz) ∧
   ((List.range (es2.length * sz)).map f2≠[]→∃ ad,B=some ad∧∀ (j:Nat) (u:Value),((List.range (es2.length * sz)).map f2)[j]?=some u→w.cell? (ad.add j)=some u) ∧
   (∀ u ∈ (List.range (es2.length * sz)).map f2,u.oneCell'=true)∧(∀ (i:Nat) (v:V),es2.flatten[i]?=some v→(f2 i).oneCell'=true∧RepP ren w (wr U ω) v (f2 i)):=by
 obtain ⟨B,cB,f2,k2,q2,eu2,hcB,hsz2,hB,hcell2⟩:=R.view (R.opnd h2) hv
 have hs2:∀ x ∈ es2,x.length=sz:=by
  rcases c2 with rfl | rfl
  ·exact hsz2
  ·simp
 have hfl2:=zap hs2
 refine ⟨B,cB,f2,eu2,hs2,fun hne=>?_,fun u hu=>?_,fun i v hv=>⟨(hcell2 i v hv).2.1,(hcell2 i v hv).2.2⟩⟩
 ·have:es2≠[]:=by rintro rfl; simp at hne
  refine ⟨_,hB this,fun j u hu=>?_⟩
  have hj:j < es2.length * sz:=by have:=(List.getElem?_eq_some_iff.1 hu).1; simpa using this
  simp [hj] at hu; subst hu
  rw [zdr]
  exact (hcell2 j _ (List.getElem?_eq_getElem (by omega))).1
 ·simp only [List.mem_map,List.mem_range] at hu
  obtain ⟨j,hj,rfl⟩:=hu
  exact (hcell2 j _ (List.getElem?_eq_getElem (by omega))).2.1
theorem zCT (R:Rel ren we ωe U O σ a w ω μ) {o:Oper} {t e:TypeId} {s x:Operand} (hop:o.op=.call { callee:=.builtin .append,args:=#[s,x],argTypes:=#[t,t] }) {i:TypeInfo} {zv:Value} {sz:Nat} (e2:i.size=sz) (hzs:zv.cells.size=sz) (hpos:0 < sz)
  {ss:Src} {t1:TypeId} (h1:xt P ren t1 s=some ss) {nb id len:Nat} {cs:List V} {es2:List (List V)} (hg:ss.get σ=.own id 0 len sz) (hb:σ.b[id]?=some (.live true cs)) (hs2:∀ x ∈ es2,x.length=sz) {f2:Nat→Value} (H2:∀ (i:Nat) (v:V),es2.flatten[i]?=some v→(f2 i).oneCell'=true∧RepP ren w (wr U ω) v (f2 i)) (hsome:len+es2.length≠0∨cs.length=0)
  {σ':St} (hput:(σ.setB id (.dead cs.length)).newB nb o.dst (.live true (cs.take (len * sz)++es2.flatten)) (fun id'=>.own id' 0 (len+es2.length) sz)=some σ')
  (rG:∀ (A:Option Addr) (sLen sCap:Nat) (olds:List Value),olds.length=sLen * i.size→(olds≠[]→∃ ad,A=some ad∧∀ (j:Nat) (u:Value),olds[j]?=some u→w.cell? (ad.add j)=some u)→sCap < sLen+es2.length→sLen=len →
   (Builtin.append_ #[t,t] o.type #[.slice A sLen sCap,a.eval x]).run P w=.ok (.slice (some ⟨w.heap.size,0,none⟩) (sLen+es2.length) (grownCap w (sLen+es2.length) sCap e)) (w.drew.alloc (.cells (olds.toArray++((List.range (es2.length * sz)).map f2).toArray++Builtin.zeroCells zv.cells (grownCap w (sLen+es2.length) sCap e - (sLen+es2.length))) e)))
  (rN:es2=[]→∀ A:Option Addr,(Builtin.append_ #[t,t] o.type #[.slice A 0 0,a.eval x]).run P w=.ok (.slice A 0 0) w)
  (rF:∀ (g sCap sLen:Nat) (cur:Array Value) (Ty:TypeId),w.heap[g]?=some (.cells cur Ty (0,0))→sLen+es2.length≤sCap→sLen * i.size+((List.range (es2.length * sz)).map f2).length≤cur.size →
   (Builtin.append_ #[t,t] o.type #[.slice (some ⟨g,0,none⟩) sLen sCap,a.eval x]).run P w=.ok (.slice (some ⟨g,0,none⟩) (sLen+es2.length) sCap) (w.setRow g (cur.toList.take (sLen * i.size)++(List.range (es2.length * sz)).map f2++cur.toList.drop (sLen * i.size+((List.range (es2.length * sz)).map f2).length)).toArray)):StepOk P ren we ωe U O a w o σ' nb μ:=by
 have hfl2:=zap hs2
 obtain ⟨d,hd,hgone,rfl⟩:=zf8 hput
 have hr:=R.opnd h1
 rw [hg] at hr
 obtain ⟨c,L,A,ex,hL,hl,⟨hlc,hz⟩,hA⟩:=hr.own_inv
 have hL':yz σ.b id=some L:=hL
 have:L=cs.length:=by simp [yz,hb] at hL'; exact hL'.symm
 subst this
 rw [Nat.zero_add] at hl
 have hlt2:nb+d < (σ.setB id (.dead cs.length)).b.length:=(List.getElem?_eq_some_iff.1 hgone).1
 have htl:(cs.take (len * sz)).length=len * sz:=by simp; omega
 have hcl:(cs.take (len * sz)++es2.flatten).length=(len+es2.length) * sz:=by rw [List.length_append,htl,hfl2,Nat.add_mul]
 obtain ⟨Fd,Rd⟩:=R.deaden hb
 by_cases hroom:len+es2.length≤c
 ·by_cases hc0:c=0
  ·subst hc0
   have hl0:len=0:=by omega
   have he0:es2=[]:=List.length_eq_zero_iff.1 (by omega)
   subst hl0 he0
   refine .value (zcO hop (by rw [ex]; exact rN rfl A)) ?_
   obtain ⟨F,R'⟩:=Rd.empty hgone true
   rw [hd]
   have hnil:cs.take (0 * sz)++([]:List (List V)).flatten=[]:=by simp
   rw [hnil]
   exact ⟨_,_,R'.put (some d) (fun i hi=>.own (nb+d) 0 0 sz 0 0 A (ze7 hlt2 _ _) (by omega) ⟨by omega,fun _=>.inr rfl⟩ (.inr ⟨rfl,rfl⟩)),fun _ _=>rfl⟩
  ·have hne:cs≠[]:=by
    rintro rfl
    rcases hz rfl with q | q
    ·omega
    ·exact hc0 q
   have hne0:len+es2.length≠0:=by
    rcases hsome with q | q
    ·exact q
    ·exact absurd (List.length_eq_zero_iff.1 q) hne
   obtain ⟨e0,arr,T,e1,e2',e3⟩:=R.live hb hne
   rcases hA with ⟨rfl,hAc⟩ | ⟨_,q⟩
   ·have hAc:0+c * sz≤yE w (μ id):=hAc
    rw [zbf e1,Nat.zero_add] at hAc
    have hfit:(len+es2.length) * sz≤arr.size:=Nat.le_trans (Nat.mul_le_mul_right sz hroom) hAc
    have hfit':len * sz+es2.length * sz≤arr.size:=by rw [← Nat.add_mul]; exact hfit
    have run:=rF (μ id) c len arr T e1 hroom (by simp [e2]; omega)
    rw [e2] at run
    refine .value (zcO hop (by rw [ex]; exact run)) ?_
    have hasz:(arr.toList.take (len * sz)++(List.range (es2.length * sz)).map f2++arr.toList.drop (len * sz+((List.range (es2.length * sz)).map f2).length)).toArray.size=arr.size:=by simp; omega
    have hget:∀ j,(arr.toList.take (len * sz)++(List.range (es2.length * sz)).map f2++arr.toList.drop (len * sz+((List.range (es2.length * sz)).map f2).length)).toArray[j]?=if len * sz≤j∧j < len * sz+es2.length * sz then ((List.range (es2.length * sz)).map f2)[j - len * sz]? else arr.toList[j]?:=by
     intro j
     rw [List.getElem?_toArray,ziu (by simp; omega)]
     simp
    obtain ⟨F,R'⟩:=R.rehome hb hne hgone (cs2:=cs.take (len * sz)++es2.flatten) e1 hasz (by rw [hasz,hcl]; exact hfit) (fun j v hj=>by
     rw [hget]
     by_cases hjl:j < len * sz
     ·rw [List.getElem?_append_left (by omega),List.getElem?_take,if_pos hjl] at hj
      rw [if_neg (by omega)]
      obtain ⟨u,g1,g2,g3,_⟩:=e3 j v hj
      exact ⟨u,by simpa using g1,g2,g3 rfl⟩
     ·rw [List.getElem?_append_right (by omega),htl] at hj
      have hlt:j - len * sz < es2.flatten.length:=(List.getElem?_eq_some_iff.1 hj).1
      rw [if_pos (by omega)]
      exact ⟨f2 (j - len * sz),by rw [List.getElem?_map,List.getElem?_range (by omega)]; rfl,H2 _ v hj⟩)
    rw [hd]
    refine ⟨_,_,R'.put (some d) (fun i hi=>?_),fun k hk=>zks hk⟩
    have hposn:sz≤(len+es2.length) * sz:=Nat.le_mul_of_pos_left sz (by omega)
    refine .own (nb+d) 0 (len+es2.length) sz c _ _ (ze7 hlt2 _ _) (by rw [hcl]; omega) ⟨hroom,fun h0=>by rw [hcl] at h0; omega⟩ (.inl ⟨?_,?_⟩)
    ·show some (Addr.mk (μ id) 0 none)=some ⟨upd μ (nb+d) (μ id) (nb+d),0,none⟩
     rw [yH]
    ·show 0+c * sz≤yE (w.setRow (μ id) _) (upd μ (nb+d) (μ id) (nb+d))
     rw [yH,zbf (setRow_heap w (μ id) arr _ T _ e1),hasz]; omega
   ·exact absurd q hc0
 ·have hpn:0 < es2.length:=by omega
  obtain ⟨olds,hol,hold,hcells⟩:∃ olds:List Value,olds.length=len * sz∧(olds≠[]→∃ ad,A=some ad∧∀ (j:Nat) (u:Value),olds[j]?=some u→w.cell? (ad.add j)=some u)∧∀ (j:Nat) (v:V),(cs.take (len * sz))[j]?=some v→∃ u,olds[j]?=some u∧u.oneCell'=true∧RepP ren w (wr U ω) v u:=by
   by_cases hne:cs=[]
   ·subst hne
    have:len * sz=0:=by simp at hl; omega
    exact ⟨[],by simp [this],fun h=>absurd rfl h,fun j v hj=>by simp at hj⟩
   ·obtain ⟨e0,arr,T,e1,e2',e3⟩:=R.live hb hne
    refine ⟨arr.toList.take (len * sz),by simp; omega,fun hn=>?_,fun j v hj=>?_⟩
    ·rcases hA with ⟨rfl,_⟩ | ⟨rfl,_⟩
     ·refine ⟨_,rfl,fun j u hu=>?_⟩
      rw [List.getElem?_take] at hu
      split at hu
      ·rw [zdr,Nat.zero_add]
       show w.cell? ⟨μ id,j,none⟩=some u
       rw [cell_of_row _ _ _ _ _ _ e1]; simpa using hu
      ·cases hu
     ·simp at hn
    ·rw [List.getElem?_take] at hj
     split at hj
     ·rename_i hjl
      obtain ⟨u,g1,g2,g3,_⟩:=e3 j v hj
      exact ⟨u,by rw [List.getElem?_take,if_pos hjl]; simpa using g1,g2,g3 rfl⟩
     ·cases hj
  have run:=rG A len c olds (by rw [hol,e2]) hold (by omega) rfl
  refine .value (zcO hop (by rw [ex]; exact run)) ?_
  obtain ⟨Fw,Rw⟩:=Rd.drew
  have hcapge:=grownCap_ge w (len+es2.length) c e
  have hasz:(olds.toArray++((List.range (es2.length * sz)).map f2).toArray++Builtin.zeroCells zv.cells (grownCap w (len+es2.length) c e - (len+es2.length))).size=grownCap w (len+es2.length) c e * sz:=by
   simp only [Array.size_append,List.size_toArray,List.length_map,List.length_range,size_zeroCells,hzs,hol]
   rw [← Nat.add_mul,← Nat.add_mul]
   congr 1
   omega
  have hcapsz:(len+es2.length) * sz≤grownCap w (len+es2.length) c e * sz:=Nat.mul_le_mul_right sz hcapge
  obtain ⟨F,R'⟩:=Rw.newBlock hgone true (cs.take (len * sz)++es2.flatten) (olds.toArray++((List.range (es2.length * sz)).map f2).toArray++Builtin.zeroCells zv.cells (grownCap w (len+es2.length) c e - (len+es2.length))) e (by rw [hasz,hcl]; exact hcapsz) (fun j v hj=>by
   have hjl:j < (cs.take (len * sz)++es2.flatten).length:=(List.getElem?_eq_some_iff.1 hj).1
   rw [hcl,Nat.add_mul] at hjl
   rw [Array.getElem?_append_left (by simp [hol]; omega)]
   by_cases hj1:j < len * sz
   ·rw [List.getElem?_append_left (by omega)] at hj
    obtain ⟨u,g1,g2,g3⟩:=hcells j v hj
    refine ⟨u,?_,g2,(g3.mono Fd.st).mono Fw.st⟩
    rw [Array.getElem?_append_left (by simp [hol]; exact hj1)]
    simpa using g1
   ·rw [List.getElem?_append_right (by omega),htl] at hj
    obtain ⟨g2,g3⟩:=H2 _ v hj
    refine ⟨f2 (j - len * sz),?_,g2,(g3.mono Fd.st).mono Fw.st⟩
    rw [Array.getElem?_append_right (by simp [hol]; omega)]
    simp only [List.size_toArray,hol]
    rw [List.getElem?_toArray,List.getElem?_map,List.getElem?_range (by omega)]; rfl)
  rw [hd]
  refine ⟨_,_,R'.put (some d) (fun i hi=>?_),fun k hk=>zks hk⟩
  have hposn:sz≤(len+es2.length) * sz:=Nat.le_mul_of_pos_left sz (by omega)
  have hnewh:(w.drew.alloc (.cells (olds.toArray++((List.range (es2.length * sz)).map f2).toArray++Builtin.zeroCells zv.cells (grownCap w (len+es2.length) c e - (len+es2.length))) e)).heap[w.drew.heap.size]?=some (.cells _ e (0,0)):=heap_alloc_new w.drew _
  refine .own (nb+d) 0 (len+es2.length) sz _ _ _ (ze7 hlt2 _ _) (by rw [hcl]; omega) ⟨hcapge,fun h0=>by rw [hcl] at h0; omega⟩ (.inl ⟨?_,?_⟩)
  ·show some (Addr.mk w.heap.size 0 none)=some ⟨upd μ (nb+d) w.drew.heap.size (nb+d),0,none⟩
   rw [yH]; rfl
  ·show 0+_≤yE (w.drew.alloc _) (upd μ (nb+d) w.drew.heap.size (nb+d))
   rw [yH,zbf hnewh,hasz]; omega
theorem zBu (R:Rel ren we ωe U O σ a w ω μ) {o:Oper} {t e:TypeId} {s x:Operand} (hop:o.op=.call { callee:=.builtin .append,args:=#[s,x],argTypes:=#[t,t] }) (ht:P.underlying t=some (.slice e)) {sz:Nat} (hsz:zH P e=some sz) {i:TypeInfo} (hi:P.info? e=some i) {z:List V} (hz:zf0 P e=some z) (hpos:0 < sz) (hzl:z.length=sz)
  {ss sx:Src} {t1 t2:TypeId} (h1:xt P ren t1 s=some ss) (h2:xt P ren t2 x=some sx) {nb:Nat} {cb:CB} {pin:Bool} {σ':St} (h:zj cb nb σ o.dst pin (.append sz i.bytes ss sx)=some σ'):StepOk P ren we ωe U O a w o σ' nb μ:=by
 obtain ⟨i',zv,hi',hzv,hcz⟩:=zgU (ren:=ren) (w:=w) (Wr:=wr U ω) hz
 rw [hi] at hi'; cases hi'
 obtain ⟨i2,hi2,e2⟩:=zeT hsz
 rw [hi] at hi2; cases hi2
 have hzs:zv.cells.size=sz:=by have:=hcz.1; simp at this; omega
 simp only [zj] at h
 split at h
 ·rename_i sz1 es sz2 es2 hg hv
  split at h
  ·rename_i hc
   obtain ⟨c1,c2,c3,c4⟩:=hc
   have c1:=c1.symm
   subst c1
   obtain ⟨B,cB,f2,eu2,hs2,hnews,hone2,hcell2⟩:=zql R h2 hv c2
   split at h
   ·split at h
    ·rename_i x0
     obtain ⟨_,cc2⟩:=R.opndC h1
     have hx0:x0=.gs sz []:=hg
     subst hx0
     have hA:∃ A,a.eval s=.slice A 0 0:=by
      rcases (cc2 _ rfl (.slot 0 0)).gs_inv with ⟨A,_,ex⟩ | ⟨β,cap,arr,Ty,f,ex,hω,_⟩
      ·exact ⟨A,ex⟩
      ·rcases (cc2 _ rfl (.slot 1 0)).gs_inv with ⟨A,_,ex⟩ | ⟨β',cap',arr',Ty',f',ex',hω',_⟩
       ·exact ⟨A,ex⟩
       ·rw [ex] at ex'
        simp only [Value.slice.injEq,Option.some.injEq,Addr.mk.injEq] at ex'
        obtain ⟨⟨rfl,_⟩,_⟩:=ex'
        rw [hω] at hω'; cases hω'
     obtain ⟨A,ex⟩:=hA
     refine zdD (e:=e) R hop hzs ex hs2 hcell2 h (fun hne=>?_) (fun he=>?_)
     ·rw [eu2]
      exact zhd (P:=P) (w:=w) (ty:=o.type) (c2:=cB) ht hi hzv (A:=A) (B:=B) (sLen:=0) (sCap:=0) (m:=es2.length) (olds:=[]) (news:=(List.range (es2.length * sz)).map f2) (by simp) (by simp) (by simp [e2]) hnews (by have:=List.length_pos_iff.2 hne; omega) c3 c4
     ·rw [eu2]; subst he
      exact zfS (P:=P) (w:=w) (ty:=o.type) (A:=A) (B:=B) (c2:=cB) ht hi
    ·cases h
   ·exact zvu R hop (i:=i) (zv:=zv) e2 hzs h1 hg hs2 hcell2 (by simpa [St.putG] using h)
     (fun A sLen sCap olds q1 q2 q3 q4 q5=>by
      rw [eu2]
      exact zhd (P:=P) (w:=w) (ty:=o.type) (c2:=cB) ht hi hzv (A:=A) (B:=B) (sLen:=sLen) (sCap:=sCap) (m:=es2.length) (olds:=olds) (news:=(List.range (es2.length * sz)).map f2) q1 q2 (by simp [e2]) hnews q3 (by rw [q4]; exact c3) (by rw [q4]; exact c4))
     (fun he A=>by
      rw [eu2]; subst he
      exact zfS (P:=P) (w:=w) (ty:=o.type) (A:=A) (B:=B) (c2:=cB) ht hi)
     (fun g sCap sLen cur Ty q1 q2 q3=>by
      rw [eu2]
      exact zl3 (P:=P) (w:=w) (ty:=o.type) (sLen:=sLen) (sCap:=sCap) (m:=es2.length) (c2:=cB) (B:=B) ht hi q1 (news:=(List.range (es2.length * sz)).map f2) (by simp [e2]) hnews hone2 q2 q3)
  ·cases h
 ·rename_i sz1 sz2 es2 hg hv
  split at h
  ·rename_i hc
   obtain ⟨c1,c2,c3,c4⟩:=hc
   have c1:=c1.symm
   subst c1
   obtain ⟨B,cB,f2,eu2,hs2,hnews,hone2,hcell2⟩:=zql R h2 hv c2
   have hr:=R.opnd h1
   rw [hg] at hr
   have hA:∃ A,a.eval s=.slice A 0 0:=by
    generalize a.eval s=u at hr
    cases hr with
    | pure h=>cases h
    | fr0 _ A=>exact ⟨A,rfl⟩
    | fr _ _ β c arr Ty f hω hb hc hn=>obtain rfl:c=0:=(hn.2 rfl).resolve_left (by omega); exact ⟨_,rfl⟩
   obtain ⟨A,ex⟩:=hA
   refine zdD (e:=e) (R.demote ss) hop hzs ex hs2 hcell2 h (fun hne=>?_) (fun he=>?_)
   ·rw [eu2]
    exact zhd (P:=P) (w:=w) (ty:=o.type) (c2:=cB) ht hi hzv (A:=A) (B:=B) (sLen:=0) (sCap:=0) (m:=es2.length) (olds:=[]) (news:=(List.range (es2.length * sz)).map f2) (by simp) (by simp) (by simp [e2]) hnews (by have:=List.length_pos_iff.2 hne; omega) c3 c4
   ·rw [eu2]; subst he
    exact zfS (P:=P) (w:=w) (ty:=o.type) (A:=A) (B:=B) (c2:=cB) ht hi
  ·cases h
 ·rename_i id off len sz1 sz2 es2 hg hv
  split at h
  ·rename_i cs hb
   split at h
   ·rename_i hc
    obtain ⟨c1,c2,c0,c3,c4,c5⟩:=hc
    have c1:=c1.symm
    subst c1
    subst c0
    obtain ⟨B,cB,f2,eu2,hs2,hnews,hone2,hcell2⟩:=zql R h2 hv c2
    exact zCT R hop (i:=i) (zv:=zv) (e:=e) e2 hzs hpos h1 hg hb hs2 hcell2 c5 h
     (fun A sLen sCap olds q1 q2 q3 q4=>by
      rw [eu2]
      exact zhd (P:=P) (w:=w) (ty:=o.type) (c2:=cB) ht hi hzv (A:=A) (B:=B) (sLen:=sLen) (sCap:=sCap) (m:=es2.length) (olds:=olds) (news:=(List.range (es2.length * sz)).map f2) q1 q2 (by simp [e2]) hnews q3 (by rw [q4]; exact c3) (by rw [q4]; exact c4))
     (fun he A=>by
      rw [eu2]; subst he
      exact zfS (P:=P) (w:=w) (ty:=o.type) (A:=A) (B:=B) (c2:=cB) ht hi)
     (fun g sCap sLen cur Ty q1 q2 q3=>by
      rw [eu2]
      exact zl3 (P:=P) (w:=w) (ty:=o.type) (sLen:=sLen) (sCap:=sCap) (m:=es2.length) (c2:=cB) (B:=B) ht hi q1 (news:=(List.range (es2.length * sz)).map f2) (by simp [e2]) hnews hone2 q2 q3)
   ·cases h
  ·cases h
 ·rename_i id off len cap sz1 sz2 es2 hg hv
  split at h
  ·rename_i cs hb
   split at h
   ·rename_i hc
    obtain ⟨c1,c2,c0,c3,_⟩:=hc
    have c1:=c1.symm
    subst c1
    subst c0
    cases h
    obtain ⟨B,cB,f2,eu2,hs2,hnews,hone2,hcell2⟩:=zql R h2 hv c2
    have hfl2:=zap hs2
    have hr:=R.opnd h1
    rw [hg] at hr
    obtain ⟨c,L,A,ex,hL,hl,⟨hlc,hcc,hzz⟩,hA⟩:=hr.cut_inv
    have hL':yz σ.b id=some L:=hL
    have:L=cs.length:=by simp [yz,hb] at hL'; exact hL'.symm
    subst this
    rw [Nat.zero_add] at hl
    by_cases hc0:c=0
    ·subst hc0
     obtain rfl:cap=0:=by omega
     obtain rfl:len=0:=by omega
     obtain rfl:es2=[]:=List.length_eq_zero_iff.1 (by omega)
     refine .value (zcO hop (by rw [ex,eu2]; exact zfS (P:=P) (w:=w) (ty:=o.type) (A:=A) (B:=B) (c2:=cB) ht hi)) ⟨ω,μ,?_,fun _ _=>rfl⟩
     rw [show zr cs (0 * sz) ([]:List (List V)).flatten=cs by simp [zr],zk9 hb]
     exact R.put _ (fun i _=>.cut id 0 0 0 sz 0 cs.length A hL (by omega) ⟨by omega,by omega,fun _=>.inr rfl⟩ (.inr ⟨rfl,rfl⟩))
    ·have hne:cs≠[]:=by
      rintro rfl
      rcases hzz rfl with q | q
      ·omega
      ·exact hc0 q
     obtain ⟨e0,arr,T,e1,e2',e3⟩:=R.live hb hne
     rcases hA with ⟨rfl,hAc⟩ | ⟨_,q⟩
     ·have hAc:0+c * sz≤yE w (μ id):=hAc
      rw [zbf e1,Nat.zero_add] at hAc
      have hfit1:(len+es2.length) * sz≤cap * sz:=Nat.mul_le_mul_right sz c3
      rw [Nat.add_mul] at hfit1
      have hfit2:cap * sz≤c * sz:=Nat.mul_le_mul_right sz hcc
      have run:=zl3 (P:=P) (w:=w) (ty:=o.type) (sLen:=len) (sCap:=c) (m:=es2.length) (c2:=cB) (B:=B) ht hi e1 (news:=(List.range (es2.length * sz)).map f2) (by simp [e2]) hnews hone2 (by omega) (by simp [e2]; omega)
      rw [e2] at run
      refine .value (zcO hop (by rw [ex,eu2]; exact run)) ⟨ω,μ,?_,fun _ _=>rfl⟩
      have hnew:CellsP ren w (wr U ω) es2.flatten ((List.range (es2.length * sz)).map f2):=by
       refine ⟨by simp [hfl2],fun j v hj=>?_⟩
       have hlt:j < es2.flatten.length:=(List.getElem?_eq_some_iff.1 hj).1
       exact ⟨f2 j,by rw [List.getElem?_map,List.getElem?_range (by omega)]; rfl,hcell2 j v hj⟩
      have R':=R.writeCells hb hne e1 hnew (off:=len * sz) (by rw [hfl2]; omega)
      refine R'.put _ (fun i _=>?_)
      refine .cut id 0 (len+es2.length) cap sz c cs.length _ ?_ (by omega) ⟨c3,hcc,hzz⟩ (.inl ⟨rfl,?_⟩)
      ·show yz (σ.b.set id _) id=some cs.length
       rw [ze7 (List.getElem?_eq_some_iff.1 hb).1,zlG (by rw [hfl2]; omega)]
      ·show 0+c * sz≤yE (w.setRow (μ id) _) (μ id)
       rw [zbf (setRow_heap w (μ id) arr _ T _ e1)]
       simp; omega
     ·exact absurd q hc0
   ·cases h
  ·cases h
 ·cases h
theorem zu9 {t u ty e:TypeId} {k:IntKind} {i:TypeInfo} {z:Value} (ht:P.underlying t=some (.slice e)) (hu:P.underlying u=some (.int k)) (hi:P.info? e=some i) (hz:i.zero=some z) (hpos:0 < i.size) {A:Option Addr} {sLen sCap m:Nat} {k':IntKind} {olds:List Value} (hol:olds.length=sLen * i.size) (hold:olds≠[]→∃ ad,A=some ad∧∀ (j:Nat) (u:Value),olds[j]?=some u→w.cell? (ad.add j)=some u)
  (hg:sCap < sLen+m) (hb:(sLen+m) * i.bytes≤140737488355328) (h63:sLen+m≤140737488355328) (hm:0 < m) :
  (Builtin.append_ #[t,u] ty #[.slice A sLen sCap,.int k' m]).run P w =
   .ok (.slice (some ⟨w.heap.size,0,none⟩) (sLen+m) (grownCap w (sLen+m) sCap e)) (w.drew.alloc (.cells (olds.toArray++Builtin.zeroCells z.cells m++Builtin.zeroCells z.cells (grownCap w (sLen+m) sCap e - (sLen+m))) e)):=by
 have hn:¬ (sLen+m≤sCap):=by omega
 have h63':¬ (9223372036854775807 < ((sLen:Int)+(m:Int))):=by omega
 have h48':¬ (281474976710656 < Builtin.nextslicecap (sLen+m) sCap * i.bytes):=by have:=growslice_fits hg hb; omega
 have hfo:=znJ (P:=P) (w:=w.drew) (len:=sLen) (cap:=sCap) olds hol (by simpa using hold)
 have hw:IntKind.wrap .i64 (m:Int)=(m:Int):=IntWalk.i64_in _ ⟨by omega,by omega⟩
 have hneg:¬ ((m:Int) < 0):=by omega
 have hmb:m * i.bytes≤140737488355328:=Nat.le_trans (Nat.mul_le_mul_right _ (by omega)) hb
 have h48:¬ ((m:Int) * (i.bytes:Int) > 281474976710656):=by
  have:((m * i.bytes:Nat):Int)≤140737488355328:=Int.ofNat_le.2 hmb
  rw [Int.natCast_mul] at this; omega
 have hne:¬ (m * i.size=0):=by
  intro h0
  rcases Nat.mul_eq_zero.1 h0 with h | h <;> omega
 simp [Builtin.append_,run_underlying ht,run_underlying hu,sizeOf,typeInfo,zeroValue,hi,hz,asInt,asIntOf,hw,hneg,h48,hne,hn,h63',h48',Question.forced,hfo,newRow,grownCap]
theorem zwe {t u ty e:TypeId} {k:IntKind} {i:TypeInfo} {z:Value} (ht:P.underlying t=some (.slice e)) (hu:P.underlying u=some (.int k)) (hi:P.info? e=some i) (hz:i.zero=some z) (hzs:z.cells.size=i.size) (hpos:0 < i.size) {g sLen sCap m:Nat} {k':IntKind} {cur:Array Value} {Ty:TypeId} (hgb:w.heap[g]?=some (.cells cur Ty (0,0)))
  (h1:∀ u ∈ (Builtin.zeroCells z.cells m).toList,u.oneCell'=true) (hroom:sLen+m≤sCap) (hfit:sLen * i.size+(Builtin.zeroCells z.cells m).toList.length≤cur.size) (hm:m * i.bytes≤140737488355328) (hm2:m≤140737488355328) :
  (Builtin.append_ #[t,u] ty #[.slice (some ⟨g,0,none⟩) sLen sCap,.int k' m]).run P w =
   .ok (.slice (some ⟨g,0,none⟩) (sLen+m) sCap) (w.setRow g (cur.toList.take (sLen * i.size)++(Builtin.zeroCells z.cells m).toList++cur.toList.drop (sLen * i.size+(Builtin.zeroCells z.cells m).toList.length)).toArray):=by
 have hst:=run_storeCells_at P g (sLen * i.size) Ty (Builtin.zeroCells z.cells m).toList 0 cur w hgb (by simpa using hfit) h1
 simp only [Nat.add_zero] at hst
 have hw:IntKind.wrap .i64 (m:Int)=(m:Int):=IntWalk.i64_in _ ⟨by omega,by omega⟩
 have hneg:¬ ((m:Int) < 0):=by omega
 have h48:¬ ((m:Int) * (i.bytes:Int) > 281474976710656):=by
  have:((m * i.bytes:Nat):Int)≤140737488355328:=Int.ofNat_le.2 hm
  rw [Int.natCast_mul] at this; omega
 by_cases h0:m=0
 ·subst h0
  have hzc:(Builtin.zeroCells z.cells 0).toList=[]:=by simp [Builtin.zeroCells]
  rw [hzc] at hst ⊢
  have hsame:w=w.setRow g (cur.toList.take (sLen * i.size)++[]++cur.toList.drop (sLen * i.size+([]:List Value).length)).toArray:=by
   have:=hst
   simp only [storeCells,Sem.run_pure] at this
   injection this
  rw [← hsame]
  have hw0:IntKind.wrap .i64 0=0:=rfl
  have hr0:sLen≤sCap:=by omega
  simp [hw0,hr0,Builtin.append_,run_underlying ht,run_underlying hu,sizeOf,typeInfo,hi,asInt,asIntOf,Addr.add_lit,storeCells]
 ·have hne:¬ (m * i.size=0):=by
   intro h
   rcases Nat.mul_eq_zero.1 h with h | h <;> omega
  simp [Builtin.append_,run_underlying ht,run_underlying hu,sizeOf,typeInfo,zeroValue,hi,hz,asInt,asIntOf,hw,hneg,h48,hne,hroom,Addr.add_lit,hst]
theorem zA7 (R:Rel ren we ωe U O σ a w ω μ) {o:Oper} {t u e:TypeId} {k:IntKind} {s x:Operand} (hop:o.op=.call { callee:=.builtin .append,args:=#[s,x],argTypes:=#[t,u] }) (ht:P.underlying t=some (.slice e)) (hu:P.underlying u=some (.int k)) {sz:Nat} (hsz:zH P e=some sz) {i:TypeInfo} (hi:P.info? e=some i) {z:List V} (hz:zf0 P e=some z) (hpos:0 < sz) (hzl:z.length=sz)
  {ss sx:Src} {t1 t2:TypeId} (h1:xt P ren t1 s=some ss) (h2:xt P ren t2 x=some sx) {nb:Nat} {cb:CB} {pin:Bool} {σ':St} (h:zj cb nb σ o.dst pin (.appendZ sz i.bytes (z.map V.dem) ss sx)=some σ'):StepOk P ren we ωe U O a w o σ' nb μ:=by
 obtain ⟨i',zv,hi',hzv,hcz⟩:=zgU (ren:=ren) (w:=w) (Wr:=wr U ω) hz
 rw [hi] at hi'; cases hi'
 obtain ⟨i2,hi2,e2⟩:=zeT hsz
 rw [hi] at hi2; cases hi2
 have hzs:zv.cells.size=sz:=by have:=hcz.1; simp at this; omega
 simp only [zj] at h
 split at h
 ·rename_i sz1 es n hg hv
  split at h
  ·rename_i hc
   obtain ⟨c1,c0,c3,c4⟩:=hc
   have c1:=c1.symm
   subst c1
   split at h
   ·cases h
   ·obtain ⟨k',ex⟩:=(R.opnd h2).int hv
    obtain ⟨m,rfl⟩:∃ m:Nat,n=m:=⟨n.toNat,by omega⟩
    simp only [Int.toNat_natCast] at c3 c4 h
    unfold xj at c3 c4
    have hd:=ziA hcz
    have hzl':(z.map V.dem).length=sz:=by simp [hzl]
    have hlen:(List.replicate m (z.map V.dem)).length=m:=by simp
    have hmb:m * i.bytes≤140737488355328:=Nat.le_trans (Nat.mul_le_mul_right _ (by omega)) c3
    have hrng:(List.range (m * sz)).map (fun j=>zv.cells[j % zv.cells.size]!)=(Builtin.zeroCells zv.cells m).toList:=by
     simp [Builtin.zeroCells,hzs]
    have H2:∀ (j:Nat) (v:V),(List.replicate m (z.map V.dem)).flatten[j]?=some v→(zv.cells[j % zv.cells.size]!).oneCell'=true∧RepP ren w (wr U ω) v (zv.cells[j % zv.cells.size]!):=by
     intro j v hv
     obtain ⟨u,g1,g2,g3⟩:=zkl hd m (m * sz) (by rw [hzl']; exact Nat.le_refl _) (by omega) j v hv
     have hj:j < m * sz:=by have:=(Array.getElem?_eq_some_iff.1 g1).1; simpa using this
     simp [hj] at g1
     subst g1
     exact ⟨by simpa using g2,by simpa using g3⟩
    have hone:∀ u ∈ (Builtin.zeroCells zv.cells m).toList,u.oneCell'=true:=by
     intro u hu
     rw [← hrng] at hu
     simp only [List.mem_map,List.mem_range] at hu
     obtain ⟨j,hj,rfl⟩:=hu
     have hfl:(List.replicate m (z.map V.dem)).flatten.length=m * sz:=by simp [hzl]
     exact (H2 j _ (List.getElem?_eq_getElem (by omega))).1
    refine zvu R hop (e:=e) (i:=i) (zv:=zv) e2 hzs h1 (es2:=List.replicate m (z.map V.dem)) hg (fun x hx=>by rw [List.eq_of_mem_replicate hx]; exact hzl') (f2:=fun j=>zv.cells[j % zv.cells.size]!) H2 h
     (fun A sLen sCap olds q1 q2 q3 q4 q5=>?_) (fun he A=>?_) (fun g sCap sLen cur Ty q1 q2 q3=>?_)
    ·rw [ex]
     simp only [hlen] at q3 ⊢
     rw [hrng]
     have hm:0 < m:=by omega
     simpa using zu9 (P:=P) (w:=w) (ty:=o.type) (k':=k') ht hu hi hzv (by omega) (A:=A) q1 q2 q3 (by rw [q4]; exact c3) (by rw [q4]; exact c4) hm
    ·rw [ex]
     have hm:m=0:=by
      have:=congrArg List.length he
      simpa using this
     subst hm
     have hw0:IntKind.wrap .i64 0=0:=rfl
     cases A <;> simp [hw0,Builtin.append_,run_underlying ht,run_underlying hu,sizeOf,typeInfo,hi,asInt,asIntOf,storeCells]
    ·rw [ex]
     simp only [hlen] at q2 q3 ⊢
     rw [hrng] at q3 ⊢
     exact zwe (P:=P) (w:=w) (ty:=o.type) (k':=k') ht hu hi hzv (by omega) (by omega) q1 hone q2 q3 hmb (by omega)
  ·cases h
 ·cases h
end
end Go.Proofs.YteopmmegeagklaaDoor
