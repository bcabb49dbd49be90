/- Part 3 of the proof of ScanRewinds: an abstract machine over plain values, its soundness, and the functions of the program on plain values. -/
import Derived.Laws.CopyRow
import Derived.Test.YtipklgbboecciaaGreatMScanRewinds2
namespace Go.Proofs.YtipklgbboecciaaGreat
set_option maxRecDepth 100000
set_option linter.unusedVariables false
set_option linter.unusedSimpArgs false
open List renaming getElem?_eq_some_iff->Wam,getElem?_eq_getElem->Wac,getElem?_set_self->Wax,getElem?_take->Wai,range->Waq,replicate->Wad,length_eq_zero_iff->WaT,getElem?_drop->Waj,getD_eq_getElem?_getD->Wak,getElem?_map->WaU,getElem_mem->WaV,getElem?_set_ne->Waw,getElem_of_mem->War
open Option renaming bind_eq_some_iff->Waa,bind_eq_bind->Wab,map_eq_some_iff->Wag
open Nat renaming mul_le_mul_right->WaA,add_zero->WaW
open Result renaming andThen_ok->Waz
open _root_.Array renaming range->WaX,getElem?_toList->WaY,getElem?_map->WaZ
open Option.some renaming injEq->Waf
section
variable {o:Oper}{σ':St}{u:Value}{w':World}{x:Operand}{s:Src}{t T:TypeId}{cb:CB}{ah p:Bool}{i:TypeInfo}{z cs:List V}{arr:Array Value}{Wr:Nat->Nat->Prop}{xs:List Nat}{c sz:Nat}{dst:Option Nat}
variable {aa:Rn} {we:World} {ωe:Nat->Ow} {U:Nat->Nat->Prop} {O:Nat->Prop} {Z:St} {a:Act} {w:World} {ω:Nat->Ow} {μ:Nat->Nat} {P:Program} {nb:Nat}
def StepOk(P:Program)(aa:Rn)(we:World)(ωe:Nat->Ow)(U:Nat->Nat->Prop)(O:Nat->Prop)(a:Act)(w:World)(o:Oper)(σ':St)(nb:Nat)(μ:Nat->Nat):Prop:=
 ∀ (K:Act->World->Prop) (Q:Exit->Act->World->Prop),(∀ a' w' ω' μ',Rel aa we ωe U O σ' a' w' ω' μ'->(∀ k,k<nb->μ' k=μ k)->K a' w')->o.wp P a w K Q
theorem StepOk.value(h:(execOp a.eval o).run P w=.ok (.value u) w')(hR:∃ ω' μ',Rel aa we ωe U O σ' (a.put o.dst u) w' ω' μ'/\∀ k,k<nb->μ' k=μ k):StepOk P aa we ωe U O a w o σ' nb μ:=by
 intro K Q hK;unfold Oper.wp;rw [h];obtain ⟨ω',μ',R,hm⟩:=hR;exact hK _ _ _ _ R hm
theorem StepOk.skip(h:(execOp a.eval o).run P w=.ok .skip w')(hR:∃ ω' μ',Rel aa we ωe U O σ' (a.put o.dst undef) w' ω' μ'/\∀ k,k<nb->μ' k=μ k):StepOk P aa we ωe U O a w o σ' nb μ:=by
 intro K Q hK;unfold Oper.wp;rw [h];obtain ⟨ω',μ',R,hm⟩:=hR;exact hK _ _ _ _ R hm
theorem StepOk.bK(R:Rel aa we ωe U O Z a w ω μ){v:V}(h:jC P aa (env U Z w ω μ) a o v):StepOk P aa we ωe U O a w o (Z.put o.dst v) nb μ:=by
 obtain ⟨u,h1,h2⟩:=h;exact .value h1 ⟨ω,μ,R.put _ (λi _=>h2 _),λ_ _=>rfl⟩
theorem Oq(R:Rel aa we ωe U O Z a w ω μ)(hop:o.op=.move x∨o.op=.assign x)(hs:du P aa t x=some s){take:Bool}(h:ck cb nb Z o.dst ah (.move s take)=some σ'):StepOk P aa we ωe U O a w o σ' nb μ:=by
 have run:(execOp a.eval o).run P w=.ok (.value (a.eval x)) w:=by
  rcases hop with e | e <;> simp [execOp,e]
 refine .value run ?_;simp only [ck] at h;split at h
 ·cases h
 ·split at h
  ·cases h;obtain ⟨c1,c2⟩:=R.opndC hs;cases hd:o.dst with
   | none=>
    exact ⟨ω,μ,R.ac s,λ_ _=>rfl⟩
   | some d=>
    by_cases htup:∃ x xs,s.get Z=.ae (x::xs)
    ·obtain ⟨y,ys,hy⟩:=htup;cases s with
     | const v=>
      have hy:v=.ae (y::ys):=hy;subst hy;have hC:=c2 _ rfl (.slot d 0);exact ⟨ω,μ,(R.ac (.const (.ae (y::ys)))).put (some d) (λi hi=>by cases hi; exact hC),λ_ _=>rfl⟩
     | tmp t=>
      have hr:=R.opnd hs;rw [hy] at hr ⊢;have hr:Rep aa (env U Z w ω μ) (.slot t 0) (.ae (y::ys)) (a.eval x):=hr;have R1:=(R.ac (.tmp t)).bp (T:=t) (λv hv=>by
       simp only [St.ac] at hv;rw [List.getElem?_modify] at hv;have hy:Z.t.getD t .af=.ae (y::ys):=hy;cases hv':Z.t[t]? with
       | none=>simp [hv'] at hv
       | some v'=>
        rw [Wak,hv'] at hy;simp [hv'] at hv hy;subst hy; subst hv; rfl) d
      refine ⟨_,μ,R1.put (some d) (λi hi=>?_),λ_ _=>rfl⟩;cases hi;have:Rep aa (env U Z w (sW t d ω) μ) (.slot d 0) (.ae (y::ys)) (a.eval x):=by simpa [Loc.rn] using hr.renSlot (T:=t) (d:=d)
      exact this
    have hmv:(s.get Z).mv=(s.get Z).tk:=by
     cases hv:s.get Z with
     | ae vs=>
      cases vs with
      | nil=>rfl
      | cons y ys=>exact absurd ⟨y,ys,hv⟩ htup
     | _=>rfl
    rw [hmv];obtain ⟨ω',F,R',hr,_⟩:=R.taken s (R.opnd hs) c1 c2 (.slot d 0);refine ⟨ω',μ,R'.put (some d) (λi hi=>?_),λ_ _=>rfl⟩;cases hi;have e:env U (Z.ac s) w ω' μ=env U Z w ω' μ:=by cases s <;> rfl
    rw [e]; exact hr
  ·cases h;exact ⟨ω,μ,R.put _ (λi _=>(R.opnd hs).ag R.hU _),λ_ _=>rfl⟩
theorem zgC{z:Value}(hi:P.info? t=some i)(hz:i.zero=some z)(w:World):(Instr.alloc t true (.tuple #[])).run P w=.ok (.pointer (some ⟨w.heap.size,0,none⟩)) (w.alloc (.cells z.cells t)):=by
 simp [Instr.alloc,zeroValue,typeInfo,hi,hz,newVar,newRow]
theorem WX{d:Nat}(hg:Z.b[nb+d]?=some .gone)(i:Nat):Rep aa (env U (Z.ab (nb+d) (.live p cs)) (w.alloc (.cells arr T)) (upd ω w.heap.size (.ax (nb+d))) (upd μ (nb+d) w.heap.size)) (.slot i 0) (.ptr (nb+d) 0) (.pointer (some ⟨w.heap.size,0,none⟩)):=by
 have hlt:nb+d<Z.b.length:=(Wam.1 hg).1;have:=Rep.ptr (aa:=aa) (E:=env U (Z.ab (nb+d) (.live p cs)) (w.alloc (.cells arr T)) (upd ω w.heap.size (.ax (nb+d))) (upd μ (nb+d) w.heap.size)) (l:=.slot i 0) (nb+d) 0 cs.length (om hlt _ _);simpa [env,d7] using this
theorem OO(h:CellsP aa w Wr cs arr.toList):cs.length<=arr.size/\∀ (j:Nat) (c:V),cs[j]?=some c->∃ u,arr[j]?=some u/\u.oneCell'=true/\RepP aa w Wr c u:=by
 refine ⟨by have:=h.1; simp at this; omega,λj c hc=>?_⟩;obtain ⟨u,g⟩:=h.2 j c hc;exact ⟨u,by simpa using g⟩
theorem zcW{j:Nat}{c:V}(h:(frz xs z)[j]?=some c):∃ c0,z[j]?=some c0/\(c=c0∨(c=zaU c0/\xs.contains j=true)):=by
 grind [frz]
theorem zbb{c:V}(h:RepP aa w Wr c u):zaU c=c∨∀ (E:En) (l:Loc),Rep aa E l (zaU c) u:=by
 cases h with
 | bv sz es A f hsz k o hA hcell h1 h hon=>cases es with
  | nil=>exact .inr λE l=>.aU sz A
  | cons e es=>exact .inl rfl
 | _=>exact .inl rfl
theorem zdq(R:Rel aa we ωe U O Z a w ω μ)(hop:o.op=.alloc t)(hz:qv P t=some z)(hxs:xs.isEmpty=true∨p=false)(h:ck cb nb Z o.dst ah (.alloc p (frz xs z))=some σ'):StepOk P aa we ωe U O a w o σ' nb μ:=by
 obtain ⟨i,zv,hi,hzv,hc⟩:=rg (aa:=aa) (w:=w) (Wr:=wr U ω) hz;simp [ck] at h;obtain ⟨d,hd,hg,rfl⟩:=o8 h;refine .value (u:=.pointer (some ⟨w.heap.size,0,none⟩)) (w':=w.alloc (.cells zv.cells t)) (by simp [execOp,hop,zgC hi hzv]) ?_;obtain ⟨q1,q2⟩:=OO hc;obtain ⟨F,R'⟩:=R.newBlockG hg p (frz xs z) zv.cells t (by simp [frz]; exact q1) (λj c hj=>by
  grind [zcW,zbb])
 exact ⟨_,_,by rw [hd]; exact R'.put (some d) (λi _=>WX hg i),λk hk=>yG hk⟩
theorem zhi(R:Rel aa we ωe U O Z a w ω μ)(hop:o.op=.box t x){t1:TypeId}(hs:du P aa t1 x=some s)(h:ck cb nb Z o.dst ah (.box p s)=some σ'):StepOk P aa we ωe U O a w o σ' nb μ:=by
 simp [ck] at h;split at h
 ·rename_i cs hgs;cases p with
  | true=>simp at h
  | false=>
   simp at h;obtain ⟨d,hd,hg,rfl⟩:=o8 h;have hr:=R.opnd hs;rw [hgs] at hr;obtain ⟨us,eu,hl,hc,h1⟩:=hr.st_inv;refine .value (u:=.pointer (some ⟨w.heap.size,0,none⟩)) (w':=w.alloc (.cells us.toArray t)) (by simp [execOp,hop,Instr.box,newVar,newRow,eu,Value.cells]) ?_;obtain ⟨F,R'⟩:=R.newBlockG hg false cs us.toArray t (by simp [hl]) (λj c hj=>by
    have hlt:j<us.length:=by grind
    refine ⟨us[j],by simp,h1 _ (WaV hlt),?_⟩;rcases hc j c _ hj (Wac hlt) with q | q
    ·exact .inl q
    ·exact .inr ⟨rfl,.inl q⟩)
   exact ⟨_,_,by rw [hd]; exact R'.put (some d) (λi _=>WX hg i),λk hk=>yG hk⟩
 split at h
 ·rename_i v hv;obtain ⟨d,hd,hg,rfl⟩:=o8 h;have hr:=(R.opnd hs).plain R.hU hv;refine .value (u:=.pointer (some ⟨w.heap.size,0,none⟩)) (w':=w.alloc (.cells (a.eval x).cells t)) (by simp [execOp,hop,Instr.box,newVar,newRow]) ?_;obtain ⟨q1,q2⟩:=OO hr.bg;obtain ⟨F,R'⟩:=R.newBlock hg p v.cells (a.eval x).cells t q1 q2;exact ⟨_,_,by rw [hd]; exact R'.put (some d) (λi _=>WX hg i),λk hk=>yG hk⟩
 ·cases h
theorem L7(R:Rel aa we ωe U O Z a w ω μ){es:Ls}(h:Z.aq nb dst ah sz es=some σ')(hsz:∀ e∈es,e.length=sz)(hn:es.length<=c)(hpz:ah=true->es=[]->c=0)(hc:c*sz<=arr.size)
  (hcell:∀ (i:Nat) (v:V),es.flatten[i]?=some v->∃ u,arr[i]?=some u/\u.oneCell'=true/\RepP aa w (wr U ω) v u) :
  ∃ ω' μ',Rel aa we ωe U O σ' (a.put dst (.slice (some ⟨w.heap.size,0,none⟩) es.length c)) (w.alloc (.cells arr T)) ω' μ'/\∀ k,k<nb->μ' k=μ k:=by
 have hfl:=gY hsz;have hle:es.length*sz<=c*sz:=WaA sz hn;have hnew:(w.alloc (.cells arr T)).heap[w.heap.size]?=some (.cells arr T (0,0)):=heap_alloc_new w _;unfold St.aq at h;split at h
 ·rename_i hpin;obtain ⟨d,rfl,hg,rfl⟩:=o8 h;have hlt:nb+d<Z.b.length:=(Wam.1 hg).1;obtain ⟨F,R'⟩:=R.newBlock hg true es.flatten arr T (by omega) hcell;refine ⟨_,_,R'.put (some d) (λi _=>?_),λk hk=>yG hk⟩;refine .own (nb+d) 0 es.length sz c es.flatten.length _ (om hlt _ _) (by omega) ⟨hn,λh0=>NO hsz h0 (λq=>.inr (hpz hpin q))⟩ (.inl ⟨by show some (Addr.mk w.heap.size 0 none)=some ⟨upd μ (nb+d) w.heap.size (nb+d),0,none⟩; rw [d7],?_⟩);show 0+c*sz<=eR (w.alloc (.cells arr T)) (upd μ (nb+d) w.heap.size (nb+d));rw [d7,jX hnew]; omega
 ·cases h;cases dst with
  | none=>
   obtain ⟨F,R'⟩:=R.newGs (.slot 0 0) 0 arr T;exact ⟨_,_,R',λ_ _=>rfl⟩
  | some d=>
   obtain ⟨F,R'⟩:=R.newGs (.slot d 0) (es.length*sz) arr T;refine ⟨_,_,R'.put (some d) (λi hi=>?_),λ_ _=>rfl⟩;cases hi;refine .gs sz es w.heap.size c arr T (λi=>arr.toList.getD i undef) (d7 _ _ _) hnew hc hn hsz (λi v hv=>?_) (λi v hv=>?_) (λi v hv=>?_) <;>
    (obtain ⟨u,g1,g2,g3⟩:=hcell i v hv
     have g1':arr.toList[i]?=some u:=by simpa using g1
     have e:arr.toList.getD i undef=u:=by grind
     simp only [e])
   ·exact g1
   ·exact g2
   ·exact g3.mono F.st
theorem zec(R:Rel aa we ωe U O Z a w ω μ){len:Nat}(h:Z.ao nb dst (.live true cs) (λid=>.own id 0 len sz)=some σ')(hlen:len*sz<=cs.length)(hn:len<=c)(hz:cs.length=0->sz=0∨c=0)(hc:c*sz<=arr.size)(hca:cs.length<=arr.size)
  (hcell:∀ (i:Nat) (v:V),cs[i]?=some v->∃ u,arr[i]?=some u/\u.oneCell'=true/\RepP aa w (wr U ω) v u) :
  ∃ ω' μ',Rel aa we ωe U O σ' (a.put dst (.slice (some ⟨w.heap.size,0,none⟩) len c)) (w.alloc (.cells arr T)) ω' μ'/\∀ k,k<nb->μ' k=μ k:=by
 have hnew:(w.alloc (.cells arr T)).heap[w.heap.size]?=some (.cells arr T (0,0)):=heap_alloc_new w _;obtain ⟨d,rfl,hg,rfl⟩:=o8 h;have hlt:nb+d<Z.b.length:=(Wam.1 hg).1;obtain ⟨F,R'⟩:=R.newBlock hg true cs arr T hca hcell;refine ⟨_,_,R'.put (some d) (λi _=>?_),λk hk=>yG hk⟩;refine .own (nb+d) 0 len sz c cs.length _ (om hlt _ _) (by omega) ⟨hn,hz⟩ (.inl ⟨by show some (Addr.mk w.heap.size 0 none)=some ⟨upd μ (nb+d) w.heap.size (nb+d),0,none⟩; rw [d7],?_⟩);show 0+c*sz<=eR (w.alloc (.cells arr T)) (upd μ (nb+d) w.heap.size (nb+d))
 grind [jX,d7]
theorem YR{α:Type}(l:List α)(n i:Nat):((Wad n l).flatten)[i]?=if i<n*l.length then l[i % l.length]? else none:=by
 induction n generalizing i with
 | zero=>simp
 | succ n ih=>
  rw [List.replicate_succ,List.flatten_cons,Nat.add_mul,Nat.one_mul];by_cases h:i<l.length
  ·rw [List.getElem?_append_left h,if_pos (by omega),Nat.mod_eq_of_lt h]
  ·rw [List.getElem?_append_right (by omega),ih];by_cases h2:i-l.length<n*l.length
   ·rw [if_pos h2,if_pos (by omega),<- Nat.mod_eq_sub_mod (by omega)]
   ·rw [if_neg h2,if_neg (by omega)]
theorem yJ{zv:Value}(hz:CellsP aa w Wr z zv.cells.toList)(n:Nat)(m:Nat)(hm:n*z.length<=m)(hpos:0<z.length):∀ (i:Nat) (v:V),((Wad n z).flatten)[i]?=some v->∃ u,((WaX m).map (λi=>zv.cells[i % zv.cells.size]!))[i]?=some u/\u.oneCell'=true/\RepP aa w Wr v u:=by
 intro i v hv;rw [YR] at hv;split at hv
 ·rename_i hi;obtain ⟨u,g1,g2,g3⟩:=hz.2 _ v hv;refine ⟨u,?_,g2,g3⟩;have e:zv.cells.size=z.length:=by have:=hz.1; simp at this; omega
  have him:i<m:=by omega
  have hmod:i % z.length<zv.cells.size:=by grind
  have g1':zv.cells[i % z.length]?=some u:=by simpa using g1
  simp only [WaZ,Array.getElem?_range,him,if_true,Option.map_some,e];rw [Array.getElem?_eq_getElem hmod] at g1';cases g1';simp [hmod]
 ·cases hv
theorem WB(R:Rel aa we ωe U O Z a w ω μ){e:TypeId}{l c:Operand}(hop:o.op=.makeSlice t l c)(ht:P.underlying t=some (.slice e))(hz:qv P e=some z)(hsz:eJ P e=some sz)(hi:P.info? e=some i)(hpos:0<sz)(hzl:z.length=sz)
  {sl sc:Src} {t1 t2:TypeId} (h1:du P aa t1 l=some sl) (h2:du P aa t2 c=some sc)     (h:ck cb nb Z o.dst ah (.makeSlice sz i.bytes (z.map V.ag) sl sc)=some σ'):StepOk P aa we ωe U O a w o σ' nb μ:=by
 obtain ⟨i',zv,hi',hzv,hcz⟩:=rg (aa:=aa) (w:=w) (Wr:=wr U ω) hz;rw [hi] at hi'; cases hi';obtain ⟨i2,hi2,e2⟩:=oA hsz;rw [hi] at hi2; cases hi2;simp [ck] at h;split at h
 ·rename_i n m hn hm;split at h
  ·rename_i hb;obtain ⟨k1,e1⟩:=(R.opnd h1).int hn;obtain ⟨k2,e3⟩:=(R.opnd h2).int hm;have hbytes:(i.bytes:Int)*m<=281474976710656:=by
    grind [cN]
   have run:=run_make (P:=P) w t e i zv ht hi hzv k1 k2 n m hb.1 hb.2.1 hbytes (by grind [cN]);refine .value (u:=.slice (some ⟨w.heap.size,0,none⟩) n.toNat m.toNat) (w':=w.alloc (.cells (madeCells zv.cells (m.toNat*i.size)) e)) (by simp [execOp,hop,e1,e3,run]) ?_;have hd:=vG hcz;have hzl':(z.map V.ag).length=sz:=by simp [hzl]
   have hlen:(Wad n.toNat (z.map V.ag)).length=n.toNat:=by simp
   split at h
   ·have hfl:(Wad m.toNat (z.map V.ag)).flatten.length=m.toNat*sz:=by simp_all
    exact zec R h (arr:=madeCells zv.cells (m.toNat*i.size)) (T:=e) (c:=m.toNat) (by rw [hfl]; exact WaA sz (by omega)) (by omega) (λq=>by
     rw [hfl] at q;rcases Nat.mul_eq_zero.1 q with q | q
     ·exact .inr q
     ·exact .inl q) (by simp [madeCells,e2]) (by rw [hfl]; simp [madeCells,e2])
     (λj v hv=>by
      have:=yJ hd m.toNat (m.toNat*i.size) (by grind) (by omega) j v hv;simpa [madeCells] using this)
   have key:=L7 R h (arr:=madeCells zv.cells (m.toNat*i.size)) (T:=e) (c:=m.toNat) (λx hx=>by grind) (by rw [hlen]; omega) (λq=>by cases q) (by simp [madeCells,e2])
    (λj v hv=>by
     have:=yJ hd n.toNat (m.toNat*i.size) (by rw [hzl',e2]; exact WaA sz (by omega)) (by omega) j v hv;simpa [madeCells] using this)
   rw [hlen] at key;exact key
  ·cases h
 ·cases h
end
section
variable {o:Oper}{t t1 T:TypeId}{n off id:Nat}{cb:CB}{ah b:Bool}{σ':St}{s:Src}{x:Operand}{cs vs:List V}{v:V}{fr:Nat × Nat}{arr:Array Value}{u:Value}
variable {aa:Rn} {we:World} {ωe:Nat->Ow} {U:Nat->Nat->Prop} {O:Nat->Prop} {Z:St} {a:Act} {w:World} {ω:Nat->Ow} {μ:Nat->Nat} {P:Program} {nb:Nat}
theorem UZ(R:Rel aa we ωe U O Z a w ω μ){e:TypeId}{parts:Array (Nat × Operand)}(hop:o.op=.buildSlice t n parts)(ht:P.underlying t=some (.slice e)){z:List V}(hz:qv P e=some z){sz:Nat}(hsz:eJ P e=some sz)(hpos:0<sz)(hzl:z.length=sz)(hbig:n*sz<=1000000)
  {ps:List (Nat × Nat × Src)} (hps:wj P aa (λi=>some (i*sz,e)) parts.toList=some ps)     (h:ck cb nb Z o.dst ah (.buildSlice sz n (z.map V.ag) ps)=some σ'):StepOk P aa we ωe U O a w o σ' nb μ:=by
 obtain ⟨i,zv,hi,hzv,hcz⟩:=rg (aa:=aa) (w:=w) (Wr:=wr U ω) hz;obtain ⟨i2,hi2,e2⟩:=oA hsz;rw [hi] at hi2; cases hi2;simp [ck,Waa] at h;obtain ⟨cs',hf,h⟩:=h;have hd:=vG hcz;have hzl':(z.map V.ag).length=sz:=by simp [hzl]
 have hbig':¬ (2 ^ 24<n*sz):=by omega
 let zero:Array Value:=if n*sz=0 then #[] else zv.cells
 have hzero:zero=if n*sz=0 then #[] else zv.cells:=rfl;have hinit:CellsP aa w (wr U ω) (Wad n (z.map V.ag)).flatten ((WaX (n*sz)).map (λi=>zero[i % zero.size]!)).toList:=by
  refine ⟨?_,λj v hv=>?_⟩
  ·simp_all
  ·have hn0:n*sz≠0:=by
    intro h0
    simp_all
   rw [hzero,if_neg hn0];obtain ⟨u,g1,g2⟩:=yJ hd n (n*sz) (by grind) (by omega) j v hv;exact ⟨u,by grind,g2⟩
 obtain ⟨arr',g1,g2⟩:=RE R (λi=>some (i*sz,e)) (λi=>some (i*sz,sz)) (λi off ty m h1 h2=>by grind) parts.toList ps _ cs' _ hps hf hinit;have g1':Instr.fill (λi=>some (i*sz,sz)) ((WaX (n*sz)).map (λi=>zero[i % zero.size]!)) ((parts.map λ(i,x)=>(i,a.eval x)).toList)=some arr':=by simpa using g1
 have run:(Instr.buildSlice t n (parts.map λ(i,x)=>(i,a.eval x))).run P w=.ok (.slice (some ⟨w.heap.size,0,none⟩) n n) (w.alloc (.cells arr' e)):=by
  unfold Instr.buildSlice;by_cases h0:n*sz=0
  ·have hz0:zero=#[]:=by rw [hzero,if_pos h0]
   rw [hz0] at g1';simp only [Sem.run_bind,run_underlying ht,hH hsz,Waz];simp [h0] at g1' ⊢;simp [g1',newRow]
  ·have hz0:zero=zv.cells:=by rw [hzero,if_neg h0]
   rw [hz0] at g1';simp only [Sem.run_bind,run_underlying ht,hH hsz,Waz];have hnb:¬ (16777216<n*sz):=by omega
   have g1'':Instr.fill (λi=>some (i*sz,sz)) ((WaX (n*sz)).map (λi=>zv.cells[i % zv.cells.size]!)) (List.map (λx=>(x.fst,a.eval x.snd)) parts.toList)=some arr':=by simpa using g1'
   simp [h0,hnb,zeroValue,typeInfo,hi,hzv,g1'',newRow]
 refine .value (u:=.slice (some ⟨w.heap.size,0,none⟩) n n) (w':=w.alloc (.cells arr' e)) (by simp [execOp,hop,run]) ?_;have hl':cs'.length=n*sz:=by
  have h1:=g2.1;have h2:∀ (ps:List (Nat × Nat × Src)) (cs cs':List V),kF Z ps cs=some cs'->cs'.length=cs.length:=by
   intro ps
   induction ps with
   | nil=>intro cs cs' h; cases h; rfl
   | cons p ps ih=>
    obtain ⟨off,m,x⟩:=p;intro cs cs' h;simp only [kF,Wab,Waa] at h
    grind [AR]
  rw [h2 _ _ _ hf,gY (sz:=sz) (λx hx=>by grind)]; simp
 obtain ⟨q1,q2⟩:=OO g2;by_cases hc:n=0/\ah=true
 ·rw [if_pos hc] at h;cases h;obtain ⟨rfl,_⟩:=hc;obtain ⟨F,R'⟩:=R.newGs (.slot 0 0) 0 arr' e;exact ⟨_,_,R'.put o.dst (λ_ _=>.aU sz _),λ_ _=>rfl⟩
 rw [if_neg hc] at h;have key:=L7 R h (arr:=arr') (T:=e) (c:=n) (jF _ _ _ (by omega)) (by grind [eo]) (λ_ he=>by grind [eo]) (by omega) (λj v hv=>by
  grind [ig])
 rw [eo] at key;exact key
theorem NX(s:ByteArray):(xc s).flatten=s.data.toList.map λb=>V.sc (.int .u8 (b.toNat:Int)):=by
 unfold xc
 induction s.data.toList with
 | nil=>rfl
 | cons x xs ih=>simp [ih]
theorem zdM(R:Rel aa we ωe U O Z a w ω μ){s d e:TypeId}(hop:o.op=.convert s d x)(hs:P.underlying s=some .string)(hd:P.underlying d=some (.slice e))(he:P.underlying e=some (.int .u8))
  {sx:Src}  (h1:du P aa t1 x=some sx)     (h:ck cb nb Z o.dst ah (.ofStr sx)=some σ'):StepOk P aa we ωe U O a w o σ' nb μ:=by
 simp only [ck] at h;split at h
 ·cases h
 split at h
 ·rename_i str hx;cases h;have hr:=R.opnd h1;rw [hx] at hr;have eu:=(hr.aA).1;have run:(execOp a.eval o).run P w=.ok (.value (.slice (some ⟨w.heap.size,0,none⟩) str.size (grownCap w str.size 0 e))) (w.drew.alloc (.cells (bytesRow str (grownCap w str.size 0 e)) e ((bytesRow str (grownCap w str.size 0 e)).size,(bytesRow str (grownCap w str.size 0 e)).size+1))):=by
   simp only [execOp,hop,eu];simp [run_bytes_of_string w s d e str hs hd he]
  refine .value run ?_;obtain ⟨Fd,Rd⟩:=R.drew;have hge:=grownCap_ge w str.size 0 e;generalize hC:grownCap w str.size 0 e=C at hge ⊢;obtain ⟨F,R'⟩:=Rd.newGs (.slot 0 0) str.size (bytesRow str C) e ((bytesRow str C).size,(bytesRow str C).size+1);refine ⟨_,_,R'.put o.dst (λi _=>.pure ?_),λ_ _=>rfl⟩;have hlen:(xc str).length=str.size:=by simp [xc]
  have key:=RepP.sl (aa:=aa) (w:=w.drew.alloc (.cells (bytesRow str C) e ((bytesRow str C).size,(bytesRow str C).size+1))) (Wr:=wr U (upd ω w.drew.heap.size (.gs (.slot 0 0) str.size))) 1 (xc str) (some ⟨w.heap.size,0,none⟩) C (λi=>.int .u8 ((str.data.toList.getD i 0).toNat:Int)) (by omega)
   (λr hr=>by obtain ⟨b,_,rfl⟩:=List.mem_map.1 hr; rfl) w.heap.size 0 (λ_=>rfl)
   (λi v hv=>by
    rw [NX,WaU,Wag] at hv;obtain ⟨b,hb,rfl⟩:=hv;have hi:i<str.data.toList.length:=(Wam.1 hb).1;have hi':i<str.size:=by simpa using hi
    refine ⟨?_,?_⟩
    ·unfold wr
     rintro (hU | hU)
     ·have:=(R.ul _ _ hU).1; have:=R.kp.size; omega
     ·rw [show w.heap.size=w.drew.heap.size from rfl,d7] at hU;simp only at hU; omega
    ·rw [show w.heap.size=w.drew.heap.size from rfl,World.cell?_alloc_mark,bytesRow,Nat.zero_add];rw [Array.getElem?_append_left (by simpa using hi')];rw [WaZ];have:str.data[i]?=some b:=by rw [<- WaY]; exact hb
     rw [this];simp [Wak,hb])
   (λi v hv=>rfl)
   (λi v hv=>by
    rw [NX,WaU,Wag] at hv;obtain ⟨b,hb,rfl⟩:=hv;have e0:(str.data.toList.getD i 0)=b:=by rw [Wak,hb]; rfl
    rw [e0];exact .sc _ rfl)
  rw [hlen] at key;exact key
 ·cases h
theorem wM(h1:iC P t=some b)(h2:eJ P t=some n){k q:Nat}(us:List Value)(hb1:b=true->us.length=n)(hb2:b=false->us.length=1)(hc:∀ (j:Nat) (u:Value),us[j]?=some u->w.cell? ⟨k,q+j,none⟩=some u)(hop:o.op=.load t x)(hx:a.eval x=.pointer (some ⟨k,q,none⟩)) :
  (execOp a.eval o).run P w=.ok (.value (if b then .agg us.toArray else us.getD 0 undef)) w:=by
 have hl:=run_loadCells_list (P:=P) w ⟨k,q,none⟩ us (λj u hu=>by rw [mB]; exact hc j u hu);simp only [execOp,hop,hx,Instr.loadAt,Instr.sureAddr,Sem.run_bind,Sem.run_pure,Waz,loadVar,Pa h1];cases b with
 | true=>
  rw [hb1 rfl] at hl;simp [hH h2,hl]
 | false=>
  cases us with
  | nil=>simp at hb2
  | cons u us=>
   have:=hc 0 u rfl
   simp_all
theorem OR(R:Rel aa we ωe U O Z a w ω μ)(hop:o.op=.load t x)(h1:iC P t=some b)(h2:eJ P t=some n)(hs:du P aa t1 x=some s){m:Nat}(hg:s.get Z=.fp m cs)
  (hv:(b=true/\n<=m/\v=.agg (cs.take n))∨(b=false/\cs[0]?=some v)):StepOk P aa we ωe U O a w o (Z.put o.dst v) nb μ:=by
 have hr:=R.opnd hs;rw [hg] at hr;obtain ⟨k,q,f,ex,hl,hcell,g1,g2⟩:=hr.a6;rcases hv with ⟨rfl,hn,rfl⟩ | ⟨rfl,hv⟩
 ·have hcs:∀ (j:Nat) (u:Value),((Waq n).map f)[j]?=some u->w.cell? ⟨k,q+j,none⟩=some u/\∃ c,cs[j]?=some c/\u=f j:=by
   intro j u hu;rw [WaU] at hu;cases hj:(Waq n)[j]? with
   | none=>simp [hj] at hu
   | some j'=>
    have hjn:j<n:=by grind
    have hj':j'=j:=by grind
    subst hj';simp [hj] at hu;subst hu;have hlt:j'<cs.length:=by omega
    have:=hcell j' _ (Wac hlt);exact ⟨this.2,_,Wac hlt,rfl⟩
  have run:=wM (P:=P) (a:=a) (w:=w) h1 h2 ((Waq n).map f) (by simp) (by simp) (λj u hu=>(hcs j u hu).1) hop ex;refine .value run ⟨ω,μ,R.put _ (λi _=>.pure ?_),λ_ _=>rfl⟩;refine CellsP.agg (us:=(Waq n).map f) ⟨by simp; omega,λi c hc=>?_⟩;rw [Wai] at hc;split at hc
  ·rename_i hin;exact ⟨f i,by simp [hin],g1 i c hc,g2 i c hc⟩
  ·cases hc
 ·have run:=wM (P:=P) (a:=a) (w:=w) h1 h2 [f 0] (by simp) (by simp) (λj u hu=>by
   cases j with
   | zero=>simp at hu; subst hu; exact (hcell 0 v hv).2
   | succ j=>simp at hu) hop ex
  exact .value run ⟨ω,μ,R.put _ (λi _=>.pure (g2 0 v hv)),λ_ _=>rfl⟩
theorem Rel.cellsAt{k:Nat}(h:w.heap[k]?=some (.cells arr T fr))(hl:off+n<=arr.size):∀ (j:Nat) (u:Value),((arr.toList.drop off).take n)[j]?=some u->w.cell? ⟨k,off+j,none⟩=some u:=by
 intro j u hu;rw [Wai] at hu;split at hu
 ·rw [Waj] at hu;rw [cell_of_row _ _ _ _ _ _ h]; simpa using hu
 ·cases hu
theorem FI(R:Rel aa we ωe U O Z a w ω μ)(hop:o.op=.load t x)(h1:iC P t=some true)(h2:eJ P t=some n)(hs:du P aa t1 x=some s)(hg:s.get Z=.ptr id off)(hb:w.heap[μ id]?=some (.cells arr T fr))
  (hl:off+n<=arr.size) (hvl:vs.length=n) (hc:∀ (j:Nat) (c:V),vs[j]?=some c->∃ u,arr[off+j]?=some u/\u.oneCell'=true/\RepP aa w (wr U ω) c u):StepOk P aa we ωe U O a w o (Z.put o.dst (.agg vs)) nb μ:=by
 have hr:=R.opnd hs;rw [hg] at hr;obtain ⟨L,hL,ex⟩:=hr.ar;have run:=wM (P:=P) (a:=a) (w:=w) h1 h2 ((arr.toList.drop off).take n) (by simp; omega) (by simp) (Rel.cellsAt hb hl) hop ex;refine .value run ⟨ω,μ,R.put _ (λi _=>.pure ?_),λ_ _=>rfl⟩;refine CellsP.agg (us:=(arr.toList.drop off).take n) ⟨by simp; omega,λj c hcj=>?_⟩;obtain ⟨u,g1,g2,g3⟩:=hc j c hcj;have hjn:j<n:=by grind
 refine ⟨u,?_,g2,g3⟩
 grind
theorem zam(R:Rel aa we ωe U O Z a w ω μ)(hop:o.op=.load t x)(h1:iC P t=some true)(h2:eJ P t=some n)(hs:du P aa t1 x=some s)(hg:s.get Z=.ptr id off)(hb:w.heap[μ id]?=some (.cells arr T fr))
  (hl:off+n<=arr.size) (hvl:vs.length=n) (hc:∀ (j:Nat) (c:V),vs[j]?=some c->∃ u,arr[off+j]?=some u/\u.oneCell'=true/\(RepP aa w (wr U ω) c u∨OwnAt (env U Z w ω μ) c u)):StepOk P aa we ωe U O a w o (Z.put o.dst (.st vs)) nb μ:=by
 have hr:=R.opnd hs;rw [hg] at hr;obtain ⟨L,hL,ex⟩:=hr.ar;have run:=wM (P:=P) (a:=a) (w:=w) h1 h2 ((arr.toList.drop off).take n) (by simp; omega) (by simp) (Rel.cellsAt hb hl) hop ex;refine .value run ⟨ω,μ,R.put _ (λi _=>?_),λ_ _=>rfl⟩;have at_:∀ (j:Nat) (c:V),vs[j]?=some c->∃ u,((arr.toList.drop off).take n)[j]?=some u/\u.oneCell'=true/\(RepP aa w (wr U ω) c u∨OwnAt (env U Z w ω μ) c u):=by
  grind
 have hlen:((arr.toList.drop off).take n).length=n:=by simp; omega
 refine .st vs ((arr.toList.drop off).take n) (by omega) (λj c u hcj hu=>?_) (λu hu=>?_)
 ·obtain ⟨u',g1,g2,g3⟩:=at_ j c hcj;rw [hu] at g1; cases g1;exact g3
 ·obtain ⟨j,hj,e⟩:=War hu;have hjv:j<vs.length:=by omega
  obtain ⟨u',g1,g2,g3⟩:=at_ j _ (Wac hjv);rw [Wac hj,e] at g1; cases g1;exact g2
theorem Rep.aN{E:En}(hU:∀ Y l h i,E.ω Y=.gs l h->i<h->¬ E.Wr Y i){l:Loc}{v':V}(h:Rep aa E l v u)(hp:v.aN=some v'):RepP aa E.w E.Wr v' u∨OwnAt E v' u:=by
 cases v with
 | own id off len sz=>cases hp; exact .inr h.bt
 | _=>exact .inl (h.plain hU hp)
theorem xd(R:Rel aa we ωe U O Z a w ω μ)(hop:o.op=.load t x)(h1:iC P t=some false)(h2:eJ P t=some n)(hs:du P aa t1 x=some s)(hg:s.get Z=.ptr id off)(hb:w.heap[μ id]?=some (.cells arr T fr))(hu:arr[off]?=some u)(hR:∃ ω' μ',Rel aa we ωe U O σ' (a.put o.dst u) w ω' μ'/\∀ k,k<nb->μ' k=μ k):StepOk P aa we ωe U O a w o σ' nb μ:=by
 have hr:=R.opnd hs;rw [hg] at hr;obtain ⟨L,hL,ex⟩:=hr.ar;have run:=wM (P:=P) (a:=a) (w:=w) h1 h2 [u] (by simp) (by simp) (λj u' hu'=>by
  cases j with
  | zero=>simp at hu'; subst hu'; show w.cell? ⟨μ id,off+0,none⟩=_; rw [WaW,cell_of_row _ _ _ _ _ _ hb]; exact hu
  | succ j=>simp at hu') hop ex
 exact .value run hR
theorem Rel.setCellV(R:Rel aa we ωe U O Z a w ω μ)(hid:Z.b[id]?=some (.live false cs))(hv:cs[off]?=some v):Rel aa we ωe U O (Z.ab id (.live false (cs.set off v.ag))) a w ω μ:=by
 have hlt:id<Z.b.length:=(Wam.1 hid).1;have hne:cs≠[]:=by rintro rfl; simp at hv
 obtain ⟨e0,arr,T,e1,e2,e3⟩:=R.live hid hne;obtain ⟨F,key⟩:=R.write hid hne (cs':=cs.set off v.ag) (by simp) e1 rfl e1 (λk _=>rfl) (Kept.refl _ w);refine key (λj c hc=>?_);by_cases hj:j=off
 ·subst hj;rw [Wax (Wam.1 hv).1] at hc;cases hc;obtain ⟨u,g1,g2,_,g4⟩:=e3 j v hv;refine ⟨u,g1,g2,by simp,Rep.frame0 F (λl=>g4.ag R.hU l) (λx xs=>?_) _⟩;cases v with
  | ae vs=>cases vs <;> simp [V.ag]
  | _=>simp [V.ag]
 ·rw [Waw (λe=>hj e.symm)] at hc;obtain ⟨u,g1,g2,g3,g4⟩:=e3 j c hc;exact ⟨u,g1,g2,by simp,g4.frame F (λl Y h _ e=>⟨e,rfl⟩)⟩
theorem Rel.takenCell(R:Rel aa we ωe U O Z a w ω μ)(hid:Z.b[id]?=some (.live false cs))(hv:cs[off]?=some v)(hr:Rep aa (env U Z w ω μ) (.cell id off) v u)(l':Loc) :
  ∃ ω',Rel aa we ωe U O (Z.ab id (.live false (cs.set off v.ag))) a w ω' μ/\Rep aa (env U (Z.ab id (.live false (cs.set off v.ag))) w ω' μ) l' v.tk u:=by
 have hlt:id<Z.b.length:=(Wam.1 hid).1;have R1:=R.setCellV hid hv;have hne:cs≠[]:=by rintro rfl; simp at hv
 obtain ⟨e0,arr,T,e1,e2,e3⟩:=R.live hid hne;obtain ⟨F1,_⟩:=R.write hid hne (cs':=cs.set off v.ag) (by simp) e1 rfl e1 (λk _=>rfl) (Kept.refl _ w);have hbl:dS (Z.b.set id (.live false (cs.set off v.ag)))=dS Z.b:=by
  grind [dS]
 have plain:(∀ sz es,v≠.gs sz es)->(∀ sz es,v≠.fr sz es)->∃ ω',Rel aa we ωe U O (Z.ab id (.live false (cs.set off v.ag))) a w ω' μ/\Rep aa (env U (Z.ab id (.live false (cs.set off v.ag))) w ω' μ) l' v.tk u:=by
  intro hne hnf;refine ⟨ω,R1,?_⟩;have e:v.tk=v.ag:=by cases v <;> first | rfl | exact absurd rfl (hne _ _) | exact absurd rfl (hnf _ _)
  rw [e];refine Rep.frame0 F1 (λl=>hr.ag R.hU l) (λx xs=>?_) _;cases v with
  | ae vs=>cases vs <;> simp [V.ag]
  | _=>simp [V.ag]
 cases v with
 | gs sz es=>
  cases hr with
  | pure h=>exact ⟨ω,R1,.pure h⟩
  | gs _ _ Y c arr' T' f hω hb hc hn hsz hcell h1 h=>
   have hβ:ω Y=.gs (.cell id off) (es.length*sz):=hω;have F:=wY U (Z.ab id (.live false (cs.set off (V.gs sz es).ag))) w μ hβ l';have R2:=R1.relabel (l:=.cell id off) hβ l' (λt v hj hl=>by cases hl) (λid' j p cs' v' hb' hc' hl u' hr'=>by
    cases hl;simp [St.ab] at hb';rw [Wax hlt] at hb';cases hb';rw [Wax (Wam.1 hv).1] at hc';cases hc';refine Rep.frame0 F (λl=>?_) (by simp [V.ag]) _;cases hr' with
    | pure h=>exact .pure h)
   exact ⟨_,R2,.gs sz es Y c arr' T' f (d7 _ _ _) hb hc hn hsz hcell h1 (λi v hv=>((h i v hv).mono F1.st).mono F.st)⟩
 | fr sz es=>
  cases hr with
  | pure h=>cases h
  | aU _ A=>exact ⟨ω,R1,.aU _ _⟩
  | fr _ _ Y c arr' T' f hω hb hc hn hsz hcell h1 h=>
   have hβ:ω Y=.gs (.cell id off) 0:=hω;have F:=wY U (Z.ab id (.live false (cs.set off (V.fr sz es).ag))) w μ hβ l';have R2:=R1.relabel (l:=.cell id off) hβ l' (λt v hj hl=>by cases hl) (λid' j p cs' v' hb' hc' hl u' hr'=>by
    cases hl;simp [St.ab] at hb';rw [Wax hlt] at hb';cases hb';rw [Wax (Wam.1 hv).1] at hc';cases hc';refine Rep.frame0 F (λl=>?_) (by simp [V.ag]) _;exact .af)
   exact ⟨_,R2,.fr sz es Y c arr' T' f (d7 _ _ _) hb hc hn hsz hcell h1 (λi v hv=>((h i v hv).mono F1.st).mono F.st)⟩
 | _=>exact plain (by simp) (by simp)
theorem zdo:∀ {cs:List V},cs.mapM V.plain=some vs->vs.length=cs.length/\∀ (j:Nat) (c:V),vs[j]?=some c->∃ c0,cs[j]?=some c0/\c0.plain=some c:=by
 grind [pT,mQ]
theorem zeZ:∀ {cs:List V},cs.mapM V.aN=some vs->vs.length=cs.length/\∀ (j:Nat) (c:V),vs[j]?=some c->∃ c0,cs[j]?=some c0/\c0.aN=some c:=by
 grind [pT,mQ]
theorem zeI(R:Rel aa we ωe U O Z a w ω μ)(hop:o.op=.load t x)(h1:iC P t=some b)(h2:eJ P t=some n)(hs:du P aa t1 x=some s){take:Bool}(h:ck cb nb Z o.dst ah (.load b n s take)=some σ'):StepOk P aa we ωe U O a w o σ' nb μ:=by
 simp only [ck] at h;split at h
 ·rename_i id off hg;split at h
  ·rename_i p cs hb;rcases R.bs id p cs hb with h0 | hbs
   ·subst h0;split at h
    ·rename_i hagg;subst hagg;split at h
     ·rename_i hfit;obtain rfl:n=0:=by simp at hfit; omega
      have hr:=R.opnd hs;rw [hg] at hr;obtain ⟨L,hL,ex⟩:=hr.ar;have run:=wM (P:=P) (a:=a) (w:=w) h1 h2 [] (by simp) (by simp) (λj u hu=>by simp at hu) hop ex;refine .value run ⟨ω,μ,?_,λ_ _=>rfl⟩;split at h
      ·cases h; exact R.put _ (λi _=>.pure (.agg _ [] (by simp) (by simp) (by simp)))
      ·split at h
       ·simp at h; subst h; exact R.put _ (λi _=>.st _ [] (by simp) (by simp) (by simp))
       ·simp at h; subst h; exact R.put _ (λi _=>.pure (.agg _ [] (by simp) (by simp) (by simp)))
     ·cases h
    ·simp at h
   obtain ⟨e0,arr,T,e1,e2,e3⟩:=hbs;split at h
   ·rename_i hagg;subst hagg;split at h
    ·rename_i hfit;split at h
     ·rename_i hp;subst hp;cases h;refine FI R hop h1 h2 hs hg e1 (by omega) (by simp; omega) (λj c hc=>?_);rw [Wai] at hc;split at hc
      ·rw [Waj] at hc;obtain ⟨u,g1,g2,g3,_⟩:=e3 _ c hc;exact ⟨u,g1,g2,g3 rfl⟩
      ·cases hc
     split at h
     ·simp only [Wab,Waa,Waf] at h;obtain ⟨vs,hvs,rfl⟩:=h;obtain ⟨q1,q2⟩:=zeZ hvs;refine zam R hop h1 h2 hs hg e1 (by omega) (by rw [q1]; simp; omega) (λj c hc=>?_);obtain ⟨c0,hc0,hp0⟩:=q2 j c hc;rw [Wai] at hc0;split at hc0
      ·rw [Waj] at hc0;obtain ⟨u,g1,g2,g3,g4⟩:=e3 _ c0 hc0;exact ⟨u,g1,g2,g4.aN R.hU hp0⟩
      ·cases hc0
     ·simp only [Wab,Waa,Waf] at h;obtain ⟨vs,hvs,rfl⟩:=h;obtain ⟨q1,q2⟩:=zdo hvs;refine FI R hop h1 h2 hs hg e1 (by omega) (by rw [q1]; simp; omega) (λj c hc=>?_);obtain ⟨c0,hc0,hp0⟩:=q2 j c hc;rw [Wai] at hc0;split at hc0
      ·rw [Waj] at hc0;obtain ⟨u,g1,g2,g3,g4⟩:=e3 _ c0 hc0;exact ⟨u,g1,g2,g4.plain R.hU hp0⟩
      ·cases hc0
    ·cases h
   ·rename_i hagg;obtain rfl:b=false:=by simpa using hagg
    split at h
    ·rename_i v hv;obtain ⟨u,g1,g2,g3,g4⟩:=e3 _ v hv;split at h
     ·split at h
      ·cases h
      ·rename_i hp;obtain rfl:p=false:=by simpa using hp
       cases h;refine xd R hop h1 h2 hs hg e1 g1 ?_;cases hd:o.dst with
       | none=>
        obtain ⟨ω',R',_⟩:=R.takenCell hb hv g4 (.slot 0 0);exact ⟨ω',μ,R',λ_ _=>rfl⟩
       | some d=>
        obtain ⟨ω',R',hr'⟩:=R.takenCell hb hv g4 (.slot d 0);exact ⟨ω',μ,R'.put (some d) (λi hi=>by cases hi; exact hr'),λ_ _=>rfl⟩
     ·cases h;exact xd R hop h1 h2 hs hg e1 g1 ⟨ω,μ,R.put _ (λi _=>g4.ag R.hU _),λ_ _=>rfl⟩
    ·cases h
  ·rename_i cs hb;obtain ⟨e0,arr,T,fr,e1,e2,e3⟩:=R.fs id cs hb;split at h
   ·rename_i hagg;subst hagg;split at h
    ·cases h;refine FI R hop h1 h2 hs hg e1 (by omega) (by simp; omega) (λj c hc=>?_);rw [Wai] at hc;split at hc
     ·rw [Waj] at hc;exact e3 _ c hc
     ·cases hc
    ·cases h
   ·rename_i hagg;obtain rfl:b=false:=by simpa using hagg
    split at h
    ·rename_i v hv;cases h;obtain ⟨u,g1,g2,g3⟩:=e3 _ v hv;exact xd R hop h1 h2 hs hg e1 g1 ⟨ω,μ,R.put _ (λi _=>.pure g3),λ_ _=>rfl⟩
    ·cases h
  ·cases h
 ·rename_i m cs hg;split at h
  ·rename_i hagg;split at h
   ·rename_i hn; cases h; exact OR R hop h1 h2 hs hg (.inl ⟨hagg,hn,rfl⟩)
   ·cases h
  ·rename_i hagg;split at h
   ·rename_i v hv; cases h; exact OR R hop h1 h2 hs hg (.inr ⟨by simpa using hagg,hv⟩)
   ·cases h
 ·cases h
end
section
variable {cs new:List V}{us:List Value}{t T t1:TypeId}{n id off sz:Nat}{o:Oper}{x:Operand}{arr:Array Value}{p ah:Bool}{v:V}{sx:Src}{cb:CB}{σ':St}
variable {aa:Rn} {we:World} {ωe:Nat->Ow} {U:Nat->Nat->Prop} {O:Nat->Prop} {Z:St} {a:Act} {w:World} {ω:Nat->Ow} {μ:Nat->Nat} {P:Program} {nb:Nat}
theorem DY(w:World)(g:Nat)(cs:Array Value):Kept (λk=>k=g) w (w.setRow g cs):=
 ⟨rfl,rfl,rfl,by simp,λk _ hn=>setRow_other w g k cs hn⟩
theorem AD{Wr:Nat->Nat->Prop}(h:CellsP aa w Wr cs us):∀ u∈us,u.oneCell'=true:=by
 intro u hu;obtain ⟨i,hi,rfl⟩:=War hu;have hlt:i<cs.length:=by rw [h.1]; exact hi
 obtain ⟨x,hx,h1,_⟩:=h.2 i _ (Wac hlt)
 grind
theorem vz(h2:eJ P t=some n){y:Operand}(hop:o.op=.store t x y){k q:Nat}(hx:a.eval x=.pointer (some ⟨k,q,none⟩))(hn:(a.eval y).cells.size=n)(hb:w.heap[k]?=some (.cells arr T (0,0)))(hfit:q+n<=arr.size)(h1:∀ v∈(a.eval y).cells.toList,v.oneCell'=true) :
  (execOp a.eval o).run P w=.ok .skip (w.setRow k (arr.toList.take q++(a.eval y).cells.toList++arr.toList.drop (q+(a.eval y).cells.toList.length)).toArray):=by
 have hst:=run_storeCells_at P k q T (a.eval y).cells.toList 0 arr w hb (by simp; omega) h1;simp only [WaW] at hst;simp [execOp,hop,hx,Instr.storeAt,Instr.sureAddr,storeVar,hH h2,hn,hst]
theorem Rel.writeCellsG(R:Rel aa we ωe U O Z a w ω μ)(hid:Z.b[id]?=some (.live p cs))(hne:cs≠[])(ha:w.heap[μ id]?=some (.cells arr T (0,0)))(hul:new.length=us.length)(hn:∀ (j:Nat) (c:V),new[j]?=some c->∃ u,us[j]?=some u/\u.oneCell'=true/\(RepP aa w (wr U ω) c u∨(p=false/\(OwnAt (env U Z w ω μ) c u∨∀ (E:En) (l:Loc),Rep aa E l c u))))(hfit:off+new.length<=cs.length) :
  Rel aa we ωe U O (Z.ab id (.live p (cq cs off new))) a (w.setRow (μ id) (arr.toList.take off++us++arr.toList.drop (off+us.length)).toArray) ω μ:=by
 obtain ⟨e0,arr0,T0,e1,e2,e3⟩:=R.live hid hne;rw [ha] at e1; cases e1;have hsz:(arr.toList.take off++us++arr.toList.drop (off+us.length)).toArray.size=arr.size:=by simp; omega
 obtain ⟨F,key⟩:=R.write hid hne (AR hfit) ha hsz (setRow_heap w _ arr _ T _ ha) (λk hk=>setRow_other w _ k _ hk) (DY w _ _);refine key (λj c hc=>?_);unfold cq at hc;rw [tm hfit] at hc;have hget:(arr.toList.take off++us++arr.toList.drop (off+us.length)).toArray[j]?=if off<=j/\j<off+us.length then us[j-off]? else arr.toList[j]?:=by
  grind [tm]
 rw [hget];split at hc
 ·rename_i hj;rw [if_pos (by omega)];obtain ⟨u,g1,g2,g3⟩:=hn _ c hc;rcases g3 with g3 | ⟨hp,g3 | g3⟩
  ·exact ⟨u,g1,g2,λ_=>g3.mono F.st,.pure (g3.mono F.st)⟩
  ·exact ⟨u,g1,g2,λh=>(by rw [hp] at h; cases h),(g3.frame F).rep _⟩
  ·grind
 ·rename_i hj;rw [if_neg (by omega)];obtain ⟨u,g1,g2,g3,g4⟩:=e3 j c hc;refine ⟨u,by simpa using g1,g2,λhp=>(g3 hp).mono F.st,g4.frame F (λl Y h _ e=>⟨e,setRow_other w _ Y _ ?_⟩)⟩;have e:ω Y=.gs l h:=e
  rintro rfl; rw [e0] at e; cases e
theorem Rel.writeCells(R:Rel aa we ωe U O Z a w ω μ)(hid:Z.b[id]?=some (.live p cs))(hne:cs≠[])(ha:w.heap[μ id]?=some (.cells arr T (0,0)))(hn:CellsP aa w (wr U ω) new us)(hfit:off+new.length<=cs.length) :
  Rel aa we ωe U O (Z.ab id (.live p (cq cs off new))) a (w.setRow (μ id) (arr.toList.take off++us++arr.toList.drop (off+us.length)).toArray) ω μ:=
 R.writeCellsG hid hne ha hn.1 (λj c hc=>by obtain ⟨u,g1,g2,g3⟩:=hn.2 j c hc; exact ⟨u,g1,g2,.inl g3⟩) hfit
theorem vQ{x:B}(h:Z.b[id]?=some x):Z.ab id x=Z:=by
 obtain ⟨hlt,rfl⟩:=Wam.1 h;cases Z;simp [St.ab]
theorem y8(h2:eJ P t=some 0){y:Operand}(hop:o.op=.store t x y){k q:Nat}(hx:a.eval x=.pointer (some ⟨k,q,none⟩))(hn:(a.eval y).cells.size=0):(execOp a.eval o).run P w=.ok .skip w:=by
 have e:(a.eval y).cells.toList=[]:=by
  grind
 simp [execOp,hop,hx,Instr.storeAt,Instr.sureAddr,storeVar,hH h2,hn,e,storeCells]
theorem zjg(h1:∀ vs,v≠.ae vs)(h2:∀ p cs,v≠.bx p cs):v.tk=v:=by
 cases v <;> first | rfl | exact absurd rfl (h1 _) | exact absurd rfl (h2 _ _)
theorem Rep.one{E:En}{l:Loc}{u:Value}(h:Rep aa E l v u)(h0:v≠.af)(h1:∀ vs,v≠.ae vs)(h2:∀ cs,v≠.agg cs)(h3:∀ cs,v≠.st cs):u.oneCell'=true/\u.cells=#[u]:=by
 cases h with
 | pure h=>
  cases h with
  | sc _ h=>refine ⟨h,?_⟩; cases u <;> first | rfl | exact absurd h (by simp [Value.oneCell'])
  | agg cs _ _ _ _=>exact absurd rfl (h2 cs)
  | sl _ _ _ _ _ _ _ _ _ _ _ _ _=>exact ⟨rfl,rfl⟩
  | bv _ _ _ _ _ _ _ _ _ _ _ _=>exact ⟨rfl,rfl⟩
  | fn _ _ _=>exact ⟨rfl,rfl⟩
 | gs _ _ _ _ _ _ _ _ _ _ _ _ _ _ _=>exact ⟨rfl,rfl⟩
 | fr _ _ _ _ _ _ _ _ _ _ _ _ _ _ _=>exact ⟨rfl,rfl⟩
 | aU _ _=>exact ⟨rfl,rfl⟩
 | ub b=>exact ⟨rfl,rfl⟩
 | mp _ _ _=>exact ⟨rfl,rfl⟩
 | bx _ _ _ _ _ _ _ _ _ _ _ _=>exact ⟨rfl,rfl⟩
 | own _ _ _ _ _ _ _ _ _ _ _=>exact ⟨rfl,rfl⟩
 | cut _ _ _ _ _ _ _ _ _ _ _ _=>exact ⟨rfl,rfl⟩
 | ptr _ _ _ _=>exact ⟨rfl,rfl⟩
 | fp _ _ _ _ _ _ _ _ _=>exact ⟨rfl,rfl⟩
 | fn _ _ _ _ _ _ _=>exact ⟨rfl,rfl⟩
 | ae vs _ _ _=>exact absurd rfl (h1 vs)
 | st cs _ _ _ _=>exact absurd rfl (h3 cs)
 | af=>exact absurd rfl h0
theorem zez(R:Rel aa we ωe U O Z a w ω μ){y:Operand}(hop:o.op=.store t x y)(h2:eJ P t=some n){sy:Src}{t2:TypeId}(hs:du P aa t1 x=some sx)(hs2:du P aa t2 y=some sy)(h:ck cb nb Z o.dst ah (.store n sx sy)=some σ'):StepOk P aa we ωe U O a w o σ' nb μ:=by
 simp only [ck] at h;split at h
 ·cases h
 ·rename_i hdst;have hdst:o.dst=none:=by simpa using hdst
  split at h
  ·rename_i id off hg;have hr:=R.opnd hs;rw [hg] at hr;obtain ⟨L,hL,ex⟩:=hr.ar;split at h
   ·rename_i cs hb;simp only [Wab,Waa] at h;obtain ⟨v,hv,h⟩:=h;split at h
    ·rename_i hc;cases h;have hrv:=(R.opnd hs2).plain R.hU hv;have hcp:=hrv.bg;have hsz:(a.eval y).cells.size=n:=by have:=hcp.1; simp at this; omega
     by_cases hne:cs=[]
     ·have h0:=hne;subst h0;obtain ⟨c1,c2⟩:=hc;obtain rfl:n=0:=by simp at c2; omega
      have hvc:v.cells=[]:=WaT.1 c1;refine .skip (y8 h2 hop ex hsz) ⟨ω,μ,?_,λ_ _=>rfl⟩;rw [hdst,hvc,show cq ([]:List V) off []=[] by simp [cq],vQ hb];exact R
     obtain ⟨e0,arr,T,e1,e2,e3⟩:=R.live hb hne;refine .skip (vz h2 hop ex hsz e1 (by omega) (AD hcp)) ⟨ω,μ,?_,λ_ _=>rfl⟩;rw [hdst];exact R.writeCells hb hne e1 hcp (by omega)
    ·cases h
   ·rename_i cs hb;split at h
    ·rename_i us hgv;split at h
     ·rename_i hc;cases h;have hrv:=R.opnd hs2;rw [hgv] at hrv;have hcp:=hrv.aZ.bg;have hsz:(a.eval y).cells.size=n:=by have:=hcp.1; simp [V.cells] at this; omega
      by_cases hne:cs=[]
      ·have h0:=hne;subst h0;obtain ⟨c1,c2⟩:=hc;obtain rfl:n=0:=by simp at c2; omega
       obtain rfl:us=[]:=WaT.1 c1;refine .skip (y8 h2 hop ex hsz) ⟨ω,μ,?_,λ_ _=>rfl⟩;rw [hdst,show cq ([]:List V) off []=[] by simp [cq],vQ hb];exact R
      obtain ⟨e0,arr,T,e1,e2,e3⟩:=R.live hb hne;refine .skip (vz h2 hop ex hsz e1 (by omega) (AD hcp)) ⟨ω,μ,?_,λ_ _=>rfl⟩;rw [hdst];exact R.writeCells hb hne e1 hcp (by show off+us.length<=_; omega)
     ·cases h
    ·rename_i us hgv;split at h
     ·rename_i hc;cases h;have hrv:=R.opnd hs2;rw [hgv] at hrv;obtain ⟨vs,eu,hvl,hcell,hone⟩:=hrv.st_inv;have hsz:(a.eval y).cells.size=n:=by rw [eu]; simp [Value.cells]; omega
      by_cases hne:cs=[]
      ·have h0:=hne;subst h0;obtain ⟨c1,c2⟩:=hc;obtain rfl:n=0:=by simp at c2; omega
       obtain rfl:us=[]:=WaT.1 c1;refine .skip (y8 h2 hop ex hsz) ⟨ω,μ,?_,λ_ _=>rfl⟩;rw [hdst,show cq ([]:List V) off []=[] by simp [cq],vQ hb];exact R
      obtain ⟨e0,arr,T,e1,e2,e3⟩:=R.live hb hne;have ecl:(a.eval y).cells.toList=vs:=by rw [eu]; simp [Value.cells]
      refine .skip (vz h2 hop ex hsz e1 (by omega) (by rw [ecl]; exact hone)) ⟨ω,μ,?_,λ_ _=>rfl⟩;rw [hdst,ecl];refine R.writeCellsG hb hne e1 hvl (λj c hj=>?_) (by omega);have hlt:j<vs.length:=by grind
      refine ⟨vs[j],Wac hlt,hone _ (WaV hlt),?_⟩;rcases hcell j c _ hj (Wac hlt) with q | q
      ·exact .inl q
      ·exact .inr ⟨rfl,.inl q⟩
     ·cases h
    ·cases h
    ·cases h
    ·cases h
    ·rename_i n1 n0 n2 n3 n5;split at h
     ·rename_i hc;obtain ⟨hn1,hlt⟩:=hc;cases h;have hne:cs≠[]:=by rintro rfl; simp at hlt
      obtain ⟨e0,arr,T,e1,e2,e3⟩:=R.live hb hne;obtain ⟨c1,c2⟩:=R.opndC hs2;obtain ⟨ω',F,R',hr',hw⟩:=R.taken sy (R.opnd hs2) c1 c2 (.cell id off);have htk:(sy.get Z).tk=sy.get Z:=zjg (λvs e=>n2 vs e) (λp cs e=>n3 p cs e);rw [htk] at hr';obtain ⟨one,hcl⟩:=(R.opnd hs2).one (λe=>n5 e) (λvs e=>n2 vs e) (λcs e=>n1 cs e) (λcs e=>n0 cs e);have hb':(Z.ac sy).b[id]?=some (.live false cs):=by cases sy <;> exact hb
      refine .skip (vz h2 hop ex (by rw [hcl]; simp [hn1]) e1 (by omega) (by rw [hcl]; simpa using one)) ?_;rw [hdst,hcl];have hsz:(arr.toList.take off++#[a.eval y].toList++arr.toList.drop (off+#[a.eval y].toList.length)).toArray.size=arr.size:=by simp; omega
      obtain ⟨e0',arr',T',e1',e2',e3'⟩:=R'.live hb' hne;rw [e1] at e1'; cases e1';obtain ⟨F2,key⟩:=R'.write hb' hne (cs':=cs.set off (sy.get Z)) (by simp) e1 hsz (setRow_heap w _ arr _ T _ e1) (λk hk=>setRow_other w _ k _ hk) (DY w _ _);refine ⟨ω',μ,key (λj c hc=>?_),λ_ _=>rfl⟩;have hget:(arr.toList.take off++#[a.eval y].toList++arr.toList.drop (off+#[a.eval y].toList.length)).toArray[j]?=if j=off then some (a.eval y) else arr.toList[j]?:=by
       grind [tm]
      rw [hget];have en:env U (Z.ac sy) w ω' μ=env U Z w ω' μ:=by cases sy <;> rfl
      by_cases hj:j=off
      ·subst hj;rw [Wax hlt] at hc;cases hc;rw [if_pos rfl];refine ⟨_,rfl,one,by simp,?_⟩;rw [en] at F2;refine hr'.frame F2 (λl Y h _ e=>⟨e,setRow_other w _ Y _ ?_⟩);have e:ω' Y=.gs l h:=e
       rintro rfl; rw [e0'] at e; cases e
      ·rw [Waw (λe=>hj e.symm)] at hc;rw [if_neg hj];obtain ⟨u,g1,g2,g3,g4⟩:=e3' j c hc;refine ⟨u,by simpa using g1,g2,by simp,g4.frame F2 (λl Y h _ e=>⟨e,setRow_other w _ Y _ ?_⟩)⟩;have e:ω' Y=.gs l h:=e
       rintro rfl; rw [e0'] at e; cases e
     ·cases h
   ·cases h
  ·cases h
theorem zbE(R:Rel aa we ωe U O Z a w ω μ){y:Operand}(hop:o.op=.store t x y)(h2:eJ P t=some n){sy:Src}{t2:TypeId}(hs:du P aa t1 x=some sx)(hs2:du P aa t2 y=some sy){xs:List Nat}(h:ck cb nb Z o.dst ah (.aX n sx sy xs)=some σ'):StepOk P aa we ωe U O a w o σ' nb μ:=by
 simp only [ck] at h;split at h
 ·cases h
 rename_i hd;split at h;rotate_left
 ·cases h
 rename_i id off hg;split at h;rotate_left
 ·cases h
 rename_i cs hb;split at h;rotate_left
 ·cases h
 rename_i us hgs;split at h;rotate_left
 ·cases h
 rename_i hc;cases h;have hdst:o.dst=none:=by simp_all
 have hr:=R.opnd hs;rw [hg] at hr;obtain ⟨L,hL,ex⟩:=hr.ar;have hrv:=R.opnd hs2;rw [hgs] at hrv;obtain ⟨vs,eu,hvl,hcell,hone⟩:=hrv.st_inv;have hsz:(a.eval y).cells.size=n:=by rw [eu]; simp [Value.cells]; omega
 by_cases hne:cs=[]
 ·have h0:=hne;subst h0;obtain ⟨c1,c2⟩:=hc;obtain rfl:n=0:=by simp at c2; omega
  obtain rfl:us=[]:=WaT.1 c1;refine .skip (y8 h2 hop ex hsz) ⟨ω,μ,?_,λ_ _=>rfl⟩;rw [hdst,show cq ([]:List V) off (frz xs [])=[] by simp [cq,frz],vQ hb];exact R
 obtain ⟨e0,arr,T,e1,e2,e3⟩:=R.live hb hne;have ecl:(a.eval y).cells.toList=vs:=by rw [eu]; simp [Value.cells]
 have hfl:(frz xs us).length=us.length:=by simp [frz]
 refine .skip (vz h2 hop ex hsz e1 (by omega) (by rw [ecl]; exact hone)) ⟨ω,μ,?_,λ_ _=>rfl⟩;rw [hdst,ecl];refine R.writeCellsG (off:=off) hb hne e1 (by rw [hfl]; exact hvl) (λj c hj=>?_) (by rw [hfl]; omega);obtain ⟨c0,h0,e⟩:=zcW hj;have hlt:j<vs.length:=by grind
 refine ⟨vs[j],Wac hlt,hone _ (WaV hlt),?_⟩;rcases hcell j c0 _ h0 (Wac hlt) with q | q
 ·rcases e with rfl | ⟨rfl,_⟩
  ·exact .inl q
  ·rcases zbb q with e | e
   ·rw [e]; exact .inl q
   ·exact .inr ⟨rfl,.inr e⟩
 ·rcases e with rfl | ⟨rfl,_⟩
  ·exact .inr ⟨rfl,.inl q⟩
  ·have q2:=q;obtain ⟨id',off',a7,sz',c',L',A',e1',_⟩:=q2;subst e1';exact .inr ⟨rfl,.inl (by simpa [zaU] using q)⟩
theorem zdr(R:Rel aa we ωe U O Z a w ω μ){e:TypeId}(hop:o.op=.call { callee:=.builtin .clear,args:=#[x],argTypes:=#[t] })(ht:P.underlying t=some (.slice e))(hsz:eJ P e=some sz)(hpos:0<sz){z:List V}(hz:qv P e=some z)(hzl:z.length=sz)(h1:du P aa t1 x=some sx)
      (h:ck cb nb Z o.dst ah (.clear sz (z.map V.ag) sx)=some σ'):StepOk P aa we ωe U O a w o σ' nb μ:=by
 obtain ⟨i,zv,hi,hzv,hcz⟩:=rg (aa:=aa) (w:=w) (Wr:=wr U ω) hz;simp [ck] at h;split at h
 ·rename_i id off len sz1 hg;split at h
  ·rename_i cs hb;split at h
   ·rename_i hs;subst hs;cases h;have hr:=R.opnd h1;rw [hg] at hr;obtain ⟨c,L,A,eu,hL,hl,hc,hA⟩:=hr.own_inv;have hL':dS Z.b id=some L:=hL;have:L=cs.length:=by grind [dS]
    subst this;rcases Nat.eq_zero_or_pos len with q | q
    ·subst q;have run:(execOp a.eval o).run P w=.ok (.value (.tuple #[])) w:=by
      cases A <;> simp [execOp,hop,resolve,invoke,builtin,Builtin.clear_,run_underlying ht,eu]
     refine .value run ⟨ω,μ,?_,λ_ _=>rfl⟩;rw [show cq cs off (Wad 0 (z.map V.ag)).flatten=cs by simp [cq],vQ hb];exact R.put _ (λi _=>.ae [] [] rfl (by simp))
    ·rcases hA with ⟨rfl,_⟩ | ⟨h0,_⟩
     ·have hlen:sz1<=len*sz1:=Nat.le_mul_of_pos_left sz1 q;have hne:cs≠[]:=by rintro rfl; simp at hl; omega
      obtain ⟨e0,arr,T,e1,e2,e3⟩:=R.live hb hne;have hd:=vG hcz;have hzs:zv.cells.size=sz1:=by have:=hcz.1; simp at this; omega
      have hcells:=yJ hd len (len*sz1) (by simp [hzl]) (by simp [hzl]; exact hpos);have hfl:(Wad len (z.map V.ag)).flatten.length=len*sz1:=by
       simp_all
      have hnew:CellsP aa w (wr U ω) (Wad len (z.map V.ag)).flatten (Builtin.zeroCells zv.cells len).toList:=by
       refine ⟨by rw [hfl]; simp [Builtin.zeroCells,hzs],λj v hv=>?_⟩;obtain ⟨u,g1,g2,g3⟩:=hcells j v hv;refine ⟨u,?_,g2,g3⟩;rw [WaY];simpa [Builtin.zeroCells,hzs] using g1
      have hzl2:(Builtin.zeroCells zv.cells len).toList.length=len*sz1:=by simp [Builtin.zeroCells,hzs]
      have hst:=run_storeCells_at P (μ id) off T (Builtin.zeroCells zv.cells len).toList 0 arr w e1 (by omega) (AD hnew);simp only [WaW] at hst;have hst':(storeCells (⟨(env U Z w ω μ).μ id,off,none⟩:Addr) (Builtin.zeroCells zv.cells len).toList).run P w=_:=hst;obtain ⟨m,rfl⟩:∃ m,len=m+1:=⟨len-1,by omega⟩;have run:(execOp a.eval o).run P w=.ok (.value (.tuple #[])) (w.setRow (μ id) (arr.toList.take off++(Builtin.zeroCells zv.cells (m+1)).toList++arr.toList.drop (off+(Builtin.zeroCells zv.cells (m+1)).toList.length)).toArray):=by
       simp only [execOp,hop,resolve,invoke,builtin,Builtin.clear_,List.map_toArray,List.map_cons,List.map_nil,eu,Sem.run_bind,Sem.run_pure,Waz,zeroValue,typeInfo];simp [run_underlying ht,hi,hzv,hst']
      refine .value run ⟨ω,μ,?_,λ_ _=>rfl⟩;exact (R.writeCells hb hne e1 hnew (by rw [hfl]; omega)).put _ (λi _=>.ae [] [] rfl (by simp))
     ·omega
   ·cases h
  ·cases h
 ·cases h
theorem zfj(R:Rel aa we ωe U O Z a w ω μ){u e:TypeId}{d s:Operand}(hop:o.op=.call { callee:=.builtin .copy,args:=#[d,s],argTypes:=#[t,u] })(ht:P.underlying t=some (.slice e))(hsz:eJ P e=some sz)(hpos:0<sz){sd ss:Src}{t2:TypeId}(h1:du P aa t1 d=some sd)(h2:du P aa t2 s=some ss)
      (h:ck cb nb Z o.dst ah (.copy sz sd ss)=some σ'):StepOk P aa we ωe U O a w o σ' nb μ:=by
 simp [ck] at h;split at h
 ·rename_i id off len sz1 sz2 es hg hv;split at h
  ·rename_i cs hb;split at h
   ·rename_i hs;obtain ⟨rfl,rfl⟩:=hs;cases h;have hr:=R.opnd h1;rw [hg] at hr;obtain ⟨c,L,A,eu,hL,hl,hc,hA⟩:=hr.own_inv;have hL':dS Z.b id=some L:=hL;have:L=cs.length:=by grind [dS]
    subst this;obtain ⟨A2,c2,f,k,q,eu2,hc2,hsz2,hA2,hcell⟩:=R.view (R.opnd h2) hv;have hmin:Nat.min es.length len=min es.length len:=rfl;generalize hmm:min es.length len=m at *
    have hml:m<=es.length:=by omega
    have hml2:m<=len:=by omega
    have hmle:m*sz2<=len*sz2:=WaA sz2 hml2;have hflat:(es.take m).flatten.length=m*sz2:=by
     rw [gY (sz:=sz2) (λx hx=>hsz2 x (List.mem_of_mem_take hx)),List.length_take,Nat.min_eq_left hml]
    have hnew:CellsP aa w (wr U ω) (es.take m).flatten ((Waq (m*sz2)).map f):=by
     refine ⟨by simp [hflat],λi v hv=>?_⟩;have hi:i<m*sz2:=by grind
     rw [M4 hsz2,Wai,if_pos hi] at hv
     grind
    by_cases hne:cs=[]
    ·have h0:=hne;subst h0;obtain rfl:len=0:=by
      grind
     obtain rfl:m=0:=by omega
     have hf:(Builtin.firstCells sz2 0 (.slice A2 es.length c2)).run P w=.ok #[] w:=by
      cases A2 <;> simp [Builtin.firstCells,loadCells,loadCellsFrom]
     have run:(execOp a.eval o).run P w=.ok (.value (.int .i64 ((0:Nat):Int))) w:=by
      cases A with
      | none=>simp [execOp,hop,resolve,invoke,builtin,Builtin.copy_,run_underlying ht,eu,eu2,Builtin.lenOf,hH hsz,hf,goInt]
      | some ad=>simp [execOp,hop,resolve,invoke,builtin,Builtin.copy_,run_underlying ht,eu,eu2,Builtin.lenOf,hH hsz,hf,goInt,storeCells]
     refine .value run ⟨ω,μ,?_,λ_ _=>rfl⟩;rw [show cq ([]:List V) off (es.take 0).flatten=[] by simp [cq],vQ hb];exact R.put _ (λi _=>.pure (.sc _ rfl))
    obtain ⟨e0,arr,T,e1,e2,e3⟩:=R.live hb hne;have hload:m≠0->∃ ad,A2=some ad/\(loadCells ad (m*sz2)).run P w=.ok ((Waq (m*sz2)).map f).toArray w:=by
     intro hm0;have hne:es≠[]:=by grind
     refine ⟨_,hA2 hne,run_loadCells w _ _ f (λj hj=>?_)⟩;rw [mB];have hlt:j<es.flatten.length:=by
      rw [gY hsz2];have:=WaA sz2 hml;omega
     grind
    have run:(execOp a.eval o).run P w=.ok (.value (.int .i64 (m:Int))) (w.setRow (μ id) (arr.toList.take off++(Waq (m*sz2)).map f++arr.toList.drop (off+((Waq (m*sz2)).map f).length)).toArray):=by
     by_cases hm0:m=0
     ·subst hm0;have hw:w.setRow (μ id) (arr.toList.take off++(Waq (0*sz2)).map f++arr.toList.drop (off+((Waq (0*sz2)).map f).length)).toArray=w:=by
       simp;exact setRow_self w _ arr T _ e1
      rw [hw];have hf:(Builtin.firstCells sz2 0 (.slice A2 es.length c2)).run P w=.ok #[] w:=by
       cases A2 <;> simp [Builtin.firstCells,loadCells,loadCellsFrom]
      cases A with
      | none=>simp [execOp,hop,resolve,invoke,builtin,Builtin.copy_,run_underlying ht,eu,eu2,Builtin.lenOf,hmin,hH hsz,hf,goInt]
      | some ad=>simp [execOp,hop,resolve,invoke,builtin,Builtin.copy_,run_underlying ht,eu,eu2,Builtin.lenOf,hmin,hH hsz,hf,goInt,storeCells]
     ·obtain ⟨ad,rfl,hl2⟩:=hload hm0;rcases hA with ⟨rfl,_⟩ | ⟨hz,_⟩
      ·have hst:=run_storeCells_at P (μ id) off T ((Waq (m*sz2)).map f) 0 arr w e1 (by simp; omega) (AD hnew);simp only [WaW] at hst;have hst':(storeCells (⟨(env U Z w ω μ).μ id,off,none⟩:Addr) ((Waq (m*sz2)).map f)).run P w=_:=hst;simp [execOp,hop,resolve,invoke,builtin,Builtin.copy_,run_underlying ht,eu,eu2,Builtin.lenOf,hmin,hH hsz,Builtin.firstCells,hl2,hst',goInt]
      ·omega
    refine .value run ⟨ω,μ,?_,λ_ _=>rfl⟩;exact (R.writeCells hb hne e1 hnew (by rw [hflat]; omega)).put _ (λi _=>.pure (.sc _ rfl))
   ·cases h
  ·cases h
 ·cases h
end
end Go.Proofs.YtipklgbboecciaaGreat
