/- Part 3 of the proof of BlockDecodes: an abstract machine over plain values, its soundness, and the functions of the program on plain values. -/
import Derived.Laws.CopyRow
import Derived.Test.YtgmhijonllockaaGreatDoorMBlockDecodes2
namespace Go.Proofs.YtgmhijonllockaaGreatDoor
set_option maxRecDepth 100000
set_option linter.unusedVariables false
set_option linter.unusedSimpArgs false
open List renaming getElem?_eq_some_iff->Wi,getElem?_eq_getElem->Wc,getElem?_set_self->WF,getElem?_set_ne->WE,getElem?_take->Wn,length_eq_zero_iff->WZ,getElem?_drop->Wp,range->Wy,replicate->We,eq_of_mem_replicate->W0,getD_eq_getElem?_getD->Ws,getElem_mem->W2,getElem?_toArray->W6,getElem_of_mem->W7
open Nat renaming mul_le_mul_right->WI,le_refl->Wq,add_zero->W1,mul_eq_zero->W3,zero_le->W8
open Result renaming andThen_ok->WD
open Option renaming bind_eq_some_iff->Wa,bind_eq_bind->Wb
open Option.some renaming injEq->Wg
open _root_.Array renaming getElem?_eq_none->WT,range->W4,getElem?_toList->W5
section
variable {ren:Rn} {we:World} {ωe:Nat→Ow} {U:Nat→Nat→Prop} {O:Nat→Prop} {σ:St} {a:Act} {w:World} {ω:Nat→Ow} {μ:Nat→Nat} {P:Program}
theorem Rel.newGs(R:Rel ren we ωe U O σ a w ω μ)(l:Loc)(h:Nat)(arr:Array Value)(T:TypeId) :
  Fr (env U σ w ω μ) (env U σ (w.alloc (.cells arr T)) (upd ω w.heap.size (.gs l h)) μ)∧Rel ren we ωe U O σ a (w.alloc (.cells arr T)) (upd ω w.heap.size (.gs l h)) μ:=by
 have hwsz:∀ k,ω k≠.no→k<w.heap.size:=fun k h=>(R.ow k h).2
 have hgs:∀ (l':Loc) β h',ω β=.gs l' h'→upd ω w.heap.size (.gs l h) β=.gs l' h'∧(w.alloc (.cells arr T)).heap[β]?=w.heap[β]?:=by
  intro l' β h' e
  have hβ:=hwsz β (by rw [e]; simp)
  exact ⟨by rw [yl _ _ (by omega)]; exact e,heap_alloc_old w _ hβ⟩
 have F:Fr (env U σ w ω μ) (env U σ (w.alloc (.cells arr T)) (upd ω w.heap.size (.gs l h)) μ):=by
  refine ⟨fun k o u h1 h2=>?_,fun id' L hL=>⟨hL,rfl,?_⟩⟩
  ·have hk:k<w.heap.size:=World.block_lt_of_cell? w ⟨k,o,none⟩ h2
   refine ⟨?_,(World.cell?_alloc_lt w _ ⟨k,o,none⟩ hk).trans h2⟩
   show ¬ wr U (upd ω w.heap.size (.gs l h)) k o
   unfold wr
   rw [yl _ _ (by omega)]
   exact h1
  ·show yA w (μ id')≤yA (w.alloc (.cells arr T)) (μ id')
   by_cases hm:μ id'<w.heap.size
   ·unfold yA; rw [heap_alloc_old w _ hm]; exact Wq _
   ·unfold yA; rw [WT (by omega)]; exact W8 _
 refine ⟨F,R.step F rfl (fun t j β h _ e=>hgs _ β h e) (fun id' p' cs' h' hne'=>?_) (fun id' cs' h'=>?_) (fun id' es' h'=>?_) (Kept.alloc No w _) (fun k _ h=>zn1 h) (fun k hk=>?_) (fun k=>?_)⟩
 ·obtain ⟨e0,arr',T',e1,_⟩:=R.live h' hne'
  have hβ:=hwsz (μ id') (by rw [e0]; simp)
  exact .inl ⟨h',by rw [yl _ _ (by omega)]; exact e0,heap_alloc_old w _ hβ,fun j β h e=>hgs _ β h e⟩
 ·obtain ⟨e0,arr',T',fr',e1,_⟩:=R.fs id' cs' h'
  have hβ:μ id'<w.heap.size:=(Array.getElem?_eq_some_iff.1 e1).1
  refine .inl ⟨h',fun o hw=>e0 o ?_,heap_alloc_old w _ hβ⟩
  unfold wr at hw ⊢
  rwa [yl _ _ (by omega)] at hw
 ·obtain ⟨e0,arr',clock',e1,_⟩:=R.ms id' es' h'
  have hβ:=hwsz (μ id') (by rw [e0]; simp)
  exact .inl ⟨h',by rw [yl _ _ (by omega)]; exact e0,heap_alloc_old w _ hβ⟩
 ·by_cases hk':k=w.heap.size
  ·subst hk'; exact ⟨.inl R.kp.size,by simp⟩
  ·rw [yl _ _ hk'] at hk
   exact ⟨(R.ow k hk).1,by have:=(R.ow k hk).2; simp; omega⟩
 ·by_cases hm:k<w.heap.size
  ·unfold yA; rw [heap_alloc_old w _ hm]; exact Wq _
  ·unfold yA; rw [WT (xs:=w.heap) (by omega)]; exact W8 _
def Loc.rn(T d:Nat):Loc→Loc
 | .slot t j=>if t=T then .slot d j else .slot t j
 | l=>l
def zhZ(T d:Nat)(ω:Nat→Ow)(k:Nat):Ow:=match ω k with | .gs l h=>.gs (l.rn T d) h | x=>x
theorem zNN(U:Nat→Nat→Prop)(T d:Nat)(ω:Nat→Ow):wr U (zhZ T d ω)=wr U ω:=by
 funext k o
 unfold wr zhZ
 cases ω k <;> rfl
theorem Loc.rn_sub(T d:Nat)(l:Loc)(j:Nat):(l.sub j).rn T d=(l.rn T d).sub j:=by
 cases l with
 | slot t i=>simp only [Loc.sub,Loc.rn]; split <;> rfl
 | cell id i=>rfl
theorem zM9(U:Nat→Nat→Prop)(σ:St)(w:World)(μ:Nat→Nat)(ω:Nat→Ow)(T d:Nat):Fr (env U σ w ω μ) (env U σ w (zhZ T d ω) μ):=by
 refine ⟨fun k o u h1 h2=>⟨?_,h2⟩,fun id L hL=>⟨hL,rfl,Wq _⟩⟩
 show ¬ wr U (zhZ T d ω) k o
 rw [zNN]; exact h1
theorem Rep.renSlot{U:Nat→Nat→Prop}{σ:St}{w:World}{μ:Nat→Nat}{ω:Nat→Ow}{T d:Nat}{l:Loc}{v:V}{u:Value}(h:Rep ren (env U σ w ω μ) l v u):Rep ren (env U σ w (zhZ T d ω) μ) (l.rn T d) v u:=by
 have F:=zM9 U σ w μ ω T d
 induction h with
 | pure h=>exact .pure (h.mono F.st)
 | @gs l sz es β c arr T' f hω hb hc hn hsz hcell h1 h=>
  have hω:ω β=.gs l (es.length*sz):=hω
  exact .gs sz es β c arr T' f (by show zhZ T d ω β=_; simp [zhZ,hω]) hb hc hn hsz hcell h1 (fun i v hv=>(h i v hv).mono F.st)
 | @fr l sz es β c arr T' f hω hb hc hn hsz hcell h1 h=>
  have hω:ω β=.gs l 0:=hω
  exact .fr sz es β c arr T' f (by show zhZ T d ω β=_; simp [zhZ,hω]) hb hc hn hsz hcell h1 (fun i v hv=>(h i v hv).mono F.st)
 | fr0 sz A=>exact .fr0 sz A
 | ub b=>exact .ub b
 | mp id L hL=>exact Rep.frame0 F (fun _=>.mp id L hL) (by simp) _
 | @bx l p cs β arr T' f hω hb hn hcell h1 h=>
  have hω:ω β=.gs l 0:=hω
  exact .bx p cs β arr T' f (by show zhZ T d ω β=_; simp [zhZ,hω]) hb hn hcell h1 (fun i v hv=>(h i v hv).mono F.st)
 | own id off len sz c L A hL hl hc hA=>exact Rep.frame0 F (fun _=>.own id off len sz c L A hL hl hc hA) (by simp) _
 | cut id off len cap sz c L A hL hl hc hA=>exact Rep.frame0 F (fun _=>.cut id off len cap sz c L A hL hl hc hA) (by simp) _
 | ptr id off L hL=>exact Rep.frame0 F (fun _=>.ptr id off L hL) (by simp) _
 | fp n cs k o f hl hcell h1 h=>exact Rep.frame0 F (fun _=>.fp n cs k o f hl hcell h1 h) (by simp) _
 | fn f g caps us hr hl h=>exact Rep.frame0 F (fun _=>.fn f g caps us hr hl h) (by simp) _
 | tup vs us hl h ih=>exact .tup vs us hl (fun j v u hv hu=>by rw [← Loc.rn_sub]; exact ih j v u hv hu)
 | st cs us hl h h1=>exact Rep.frame0 F (fun _=>.st cs us hl h h1) (by simp) _
 | junk=>exact .junk
theorem Rel.renSlot'(R:Rel ren we ωe U O σ a w ω μ){T:Nat}(hT:∀ v,σ.t[T]?=some v→v=.junk)(d:Nat):Rel ren we ωe U O σ a w (zhZ T d ω) μ:=by
 have F:=zM9 U σ w μ ω T d
 have key:∀ l:Loc,l.hd≠.slot T 0→∀ (l':Loc) (β h:Nat),l'.hd=l.hd→ω β=.gs l' h→zhZ T d ω β=.gs l' h:=by
  intro l hl l' β h e1 e2
  unfold zhZ
  rw [e2]
  cases l' with
  | slot t j=>
   have:t≠T:=by rintro rfl; exact hl (by rw [← e1]; rfl)
   simp [Loc.rn,this]
  | cell id j=>rfl
 refine ⟨R.df,R.tl,fun j v hj=>?_,fun id p cs hb=>?_,fun id cs hb=>?_,fun id es hb=>?_,R.kp,fun k hk=>?_,R.ul,fun k o u h1 h2=>F.st k o u (R.fr k o u h1 h2).1 (R.fr k o u h1 h2).2,R.rs,R.gv⟩
 ·by_cases hjT:j=T
  ·subst hjT; rw [hT v hj]; exact .junk
  ·exact (R.ts j v hj).frame F (fun l' β h e1 e2=>⟨key (.slot j 0) (by intro e; cases e; exact hjT rfl) l' β h e1 e2,rfl⟩)
 ·refine zzE fun hne=>?_
  obtain ⟨e0,arr,T',e1,e2,e3⟩:=R.live hb hne
  refine ⟨by simp [zhZ,e0],arr,T',e1,e2,fun j c hc=>?_⟩
  obtain ⟨u,g1,g2,g3,g4⟩:=e3 j c hc
  exact ⟨u,g1,g2,fun hp=>(g3 hp).mono F.st,g4.frame F (fun l' β h e1 e2=>⟨key (.cell id j) (by intro e; cases e) l' β h e1 e2,rfl⟩)⟩
 ·obtain ⟨e0,arr,T',fr,e1,e2,e3⟩:=R.fs id cs hb
  refine ⟨by rw [zNN]; exact e0,arr,T',fr,e1,e2,fun j c hc=>?_⟩
  obtain ⟨u,g1,g2,g3⟩:=e3 j c hc
  exact ⟨u,g1,g2,g3.mono F.st⟩
 ·obtain ⟨e0,arr,clock,e1,e2⟩:=R.ms id es hb
  exact ⟨by simp [zhZ,e0],arr,clock,e1,e2.mono F.st⟩
 ·refine R.ow k (fun e=>hk ?_)
  simp [zhZ,e]
theorem Rel.renSlot(R:Rel ren we ωe U O σ a w ω μ){T:Nat}(hT:σ.t.length≤T)(d:Nat):Rel ren we ωe U O σ a w (zhZ T d ω) μ:=
 R.renSlot' (fun v hv=>by have:=(Wi.1 hv).1; omega) d
theorem Rel.reown(R:Rel ren we ωe U O σ a w ω μ){T j0:Nat}(hT:σ.t.length≤T){β h:Nat}(hβ:ω β=.gs (.slot T j0) h)(l':Loc)(h':Nat)(hh:h≤h') :
  Fr (env U σ w ω μ) (env U σ w (upd ω β (.gs l' h')) μ)∧Rel ren we ωe U O σ a w (upd ω β (.gs l' h')) μ:=by
 have F:Fr (env U σ w ω μ) (env U σ w (upd ω β (.gs l' h')) μ):=by
  refine ⟨fun k o u h1 h2=>⟨?_,h2⟩,fun id L hL=>⟨hL,rfl,Wq _⟩⟩
  show ¬ wr U (upd ω β (.gs l' h')) k o
  have h1:¬ wr U ω k o:=h1
  unfold wr at h1 ⊢
  by_cases hk:k=β
  ·subst hk
   rw [xv]
   rw [hβ] at h1
   simp only [not_or] at h1 ⊢
   exact ⟨h1.1,by omega⟩
  ·rw [yl _ _ hk]; exact h1
 have key:∀ l:Loc,l.hd≠.slot T 0→∀ (l2:Loc) (β2 h2:Nat),l2.hd=l.hd→ω β2=.gs l2 h2→upd ω β (.gs l' h') β2=.gs l2 h2:=by
  intro l hl l2 β2 h2 e1 e2
  rw [yl]
  ·exact e2
  ·rintro rfl
   rw [hβ] at e2; cases e2
   exact hl e1.symm
 refine ⟨F,R.df,R.tl,fun j v hj=>?_,fun id p cs hb=>?_,fun id cs hb=>?_,fun id es hb=>?_,R.kp,fun k hk=>?_,R.ul,fun k o u h1 h2=>F.st k o u (R.fr k o u h1 h2).1 (R.fr k o u h1 h2).2,R.rs,R.gv⟩
 ·refine (R.ts j v hj).frame F (fun l' β h e1 e2=>⟨key (.slot j 0) ?_ l' β h e1 e2,rfl⟩)
  have:j<σ.t.length:=(Wi.1 hj).1
  intro e; cases e; omega
 ·refine zzE fun hne=>?_
  obtain ⟨e0,arr,T',e1,e2,e3⟩:=R.live hb hne
  refine ⟨?_,arr,T',e1,e2,fun j c hc=>?_⟩
  ·rw [yl]
   ·exact e0
   ·intro e; rw [e,hβ] at e0; cases e0
  obtain ⟨u,g1,g2,g3,g4⟩:=e3 j c hc
  exact ⟨u,g1,g2,fun hp=>(g3 hp).mono F.st,g4.frame F (fun l' β h e1 e2=>⟨key (.cell id j) (by intro e; cases e) l' β h e1 e2,rfl⟩)⟩
 ·obtain ⟨e0,arr,T',fr,e1,e2,e3⟩:=R.fs id cs hb
  refine ⟨fun o ho=>?_,arr,T',fr,e1,e2,fun j c hc=>?_⟩
  ·by_cases hk:μ id=β
   ·unfold wr at ho
    rw [hk,xv] at ho
    rcases ho with ho | ho
    ·exact e0 o (.inl (by rw [hk]; exact ho))
    ·have ho:h'≤o:=ho
     exact e0 o (.inr (by rw [hk,hβ]; show h≤o; omega))
   ·unfold wr at ho
    rw [yl _ _ hk] at ho
    exact e0 o ho
  ·obtain ⟨u,g1,g2,g3⟩:=e3 j c hc
   exact ⟨u,g1,g2,g3.mono F.st⟩
 ·obtain ⟨e0,arr,clock,e1,e2⟩:=R.ms id es hb
  refine ⟨?_,arr,clock,e1,e2.mono F.st⟩
  rw [yl]
  ·exact e0
  ·intro e; rw [e,hβ] at e0; cases e0
 ·by_cases hkb:k=β
  ·subst hkb; exact R.ow k (by rw [hβ]; simp)
  ·rw [yl _ _ hkb] at hk; exact R.ow k hk
theorem Rel.adopt(R:Rel ren we ωe U O σ a w ω μ){T j0:Nat}(hT:σ.t.length≤T){β:Nat}(hβ:ω β=.gs (.slot T j0) 0){id:Nat}(hid:σ.b[id]?=some .gone)(p:Bool)(cs:List V)(arr:Array Value)(Ty:TypeId)
  (hb:w.heap[β]?=some (.cells arr Ty (0,0))) (hl:cs.length≤arr.size) (hc:∀ (j:Nat) (c:V),cs[j]?=some c→∃ u,arr[j]?=some u∧u.oneCell'=true∧RepP ren w (wr U ω) c u) :
  Fr (env U σ w ω μ) (env U (σ.setB id (.live p cs)) w (upd ω β (.blk id)) (upd μ id β))∧Rel ren we ωe U O (σ.setB id (.live p cs)) a w (upd ω β (.blk id)) (upd μ id β):=by
 have hlt:id<σ.b.length:=(Wi.1 hid).1
 have hw:wr U (upd ω β (.blk id))=wr U ω:=by
  funext k o
  unfold wr
  by_cases hk:k=β
  ·subst hk; rw [xv,hβ]; simp
  ·rw [yl _ _ hk]
 have F:Fr (env U σ w ω μ) (env U (σ.setB id (.live p cs)) w (upd ω β (.blk id)) (upd μ id β)):=by
  refine ⟨fun k o u h1 h2=>⟨?_,h2⟩,fun id' L hL=>?_⟩
  ·show ¬ wr U (upd ω β (.blk id)) k o
   rw [hw]; exact h1
  ·have hL:yr σ.b id'=some L:=hL
   have hne:id'≠id:=by rintro rfl; simp [yr,hid] at hL
   refine ⟨?_,yl _ _ hne,Wq _⟩
   show yr (σ.b.set id _) id'=some L
   unfold yr at hL ⊢
   rw [WE (fun e=>hne e.symm)]
   exact hL
 have key:∀ l:Loc,l.hd≠.slot T 0→∀ (l2:Loc) (β2 h2:Nat),l2.hd=l.hd→ω β2=.gs l2 h2→upd ω β (.blk id) β2=.gs l2 h2:=by
  intro l hl l2 β2 h2 e1 e2
  rw [yl]
  ·exact e2
  ·rintro rfl
   rw [hβ] at e2; cases e2
   exact hl e1.symm
 refine ⟨F,R.df,R.tl,fun j v hj=>?_,fun id' p' cs' hb'=>?_,fun id' cs' hb'=>?_,fun id' es' hb'=>?_,R.kp,fun k hk=>?_,R.ul,fun k o u h1 h2=>F.st k o u (R.fr k o u h1 h2).1 (R.fr k o u h1 h2).2,R.rs,R.gv⟩
 ·refine (R.ts j v hj).frame F (fun l' β h e1 e2=>⟨key (.slot j 0) ?_ l' β h e1 e2,rfl⟩)
  have:j<σ.t.length:=(Wi.1 hj).1
  intro e; cases e; omega
 ·by_cases hne:id'=id
  ·subst hne
   simp only [St.setB] at hb'
   rw [WF hlt] at hb'
   cases hb'
   refine .inr ⟨by rw [xv,xv],arr,Ty,by rw [xv]; exact hb,hl,fun j c hj=>?_⟩
   obtain ⟨u,g1,g2,g3⟩:=hc j c hj
   exact ⟨u,g1,g2,fun _=>g3.mono F.st,.pure (g3.mono F.st)⟩
  ·simp only [St.setB] at hb'
   rw [WE (fun e=>hne e.symm)] at hb'
   refine zzE fun hne'=>?_
   obtain ⟨e0,arr',T',e1,e2,e3⟩:=R.live hb' hne'
   rw [yl _ _ hne]
   refine ⟨?_,arr',T',e1,e2,fun j c hj=>?_⟩
   ·rw [yl]
    ·exact e0
    ·intro e; rw [e,hβ] at e0; cases e0
   ·obtain ⟨u,g1,g2,g3,g4⟩:=e3 j c hj
    exact ⟨u,g1,g2,fun hp=>(g3 hp).mono F.st,g4.frame F (fun l' β h e1 e2=>⟨key (.cell id' j) (by intro e; cases e) l' β h e1 e2,rfl⟩)⟩
 ·by_cases hne:id'=id
  ·subst hne
   simp only [St.setB] at hb'
   rw [WF hlt] at hb'
   cases hb'
  ·simp only [St.setB] at hb'
   rw [WE (fun e=>hne e.symm)] at hb'
   obtain ⟨e0,arr',T',fr',e1,e2,e3⟩:=R.fs id' cs' hb'
   rw [yl _ _ hne]
   refine ⟨by rw [hw]; exact e0,arr',T',fr',e1,e2,fun j c hj=>?_⟩
   obtain ⟨u,g1,g2,g3⟩:=e3 j c hj
   exact ⟨u,g1,g2,g3.mono F.st⟩
 ·by_cases hne:id'=id
  ·subst hne
   simp only [St.setB] at hb'
   rw [WF hlt] at hb'
   cases hb'
  ·simp only [St.setB] at hb'
   rw [WE (fun e=>hne e.symm)] at hb'
   obtain ⟨e0,arr',clock',e1,e2⟩:=R.ms id' es' hb'
   rw [yl _ _ hne]
   refine ⟨?_,arr',clock',e1,e2.mono F.st⟩
   rw [yl]
   ·exact e0
   ·intro e; rw [e,hβ] at e0; cases e0
 ·by_cases hkb:k=β
  ·subst hkb; exact R.ow k (by rw [hβ]; simp)
  ·rw [yl _ _ hkb] at hk; exact R.ow k hk
theorem Rel.empty(R:Rel ren we ωe U O σ a w ω μ){id:Nat}(hid:σ.b[id]?=some .gone)(p:Bool) :
  Fr (env U σ w ω μ) (env U (σ.setB id (.live p [])) w ω μ)∧Rel ren we ωe U O (σ.setB id (.live p [])) a w ω μ:=by
 have hlt:id<σ.b.length:=(Wi.1 hid).1
 have F:Fr (env U σ w ω μ) (env U (σ.setB id (.live p [])) w ω μ):=by
  refine ⟨fun k o u h1 h2=>⟨h1,h2⟩,fun id' L hL=>⟨?_,rfl,Wq _⟩⟩
  have hL:yr σ.b id'=some L:=hL
  have hne:id'≠id:=by rintro rfl; simp [yr,hid] at hL
  show yr (σ.b.set id _) id'=some L
  unfold yr at hL ⊢
  rw [WE (fun e=>hne e.symm)]
  exact hL
 refine ⟨F,R.step F rfl (fun t j β h _ e=>⟨e,rfl⟩) (fun id' p' cs' h' hne'=>?_) (fun id' cs' h'=>?_) (fun id' es' h'=>?_) (Kept.refl No w) (fun k _ h=>zn1 h) R.ow (fun k=>Wq _)⟩
 ·simp only [St.setB] at h'
  by_cases hne:id'=id
  ·subst hne; rw [WF hlt] at h'; cases h'; exact absurd rfl hne'
  ·rw [WE (fun e=>hne e.symm)] at h'
   exact .inl ⟨h',(R.live h' hne').1,rfl,fun j β h e=>⟨e,rfl⟩⟩
 ·simp only [St.setB] at h'
  by_cases hne:id'=id
  ·subst hne; rw [WF hlt] at h'; cases h'
  ·rw [WE (fun e=>hne e.symm)] at h'
   exact .inl ⟨h',(R.fs id' cs' h').1,rfl⟩
 ·simp only [St.setB] at h'
  by_cases hne:id'=id
  ·subst hne; rw [WF hlt] at h'; cases h'
  ·rw [WE (fun e=>hne e.symm)] at h'
   exact .inl ⟨h',(R.ms id' es' h').1,rfl⟩
theorem zzF{sz c:Nat}{es:Ls}(hsz:∀ e∈es,e.length=sz)(h0:es.flatten.length=0)(h:es=[]→sz=0∨c=0):sz=0∨c=0:=by
 rw [yV hsz] at h0
 rcases W3.1 h0 with q | q
 ·exact h (WZ.1 q)
 ·exact .inl q
theorem zfe{nb:Nat}{dst:Option Nat}{x:B}{f:Nat→V}{σ':St}(h:σ.newB nb dst x f=some σ'):∃ d,dst=some d∧σ.b[nb+d]?=some .gone∧σ'=(σ.setB (nb+d) x).put dst (f (nb+d)):=by
 unfold St.newB at h
 split at h
 ·rename_i d
  split at h
  ·rename_i hg; cases h; exact ⟨d,rfl,hg,rfl⟩
  ·cases h
 ·cases h
theorem zed{b:List B}{id:Nat}(hid:id<b.length)(p:Bool)(cs:List V):yr (b.set id (.live p cs)) id=some cs.length:=by
 unfold yr; rw [WF hid]
theorem zbl{w:World}{k:Nat}{arr:Array Value}{T:TypeId}{fr:Nat × Nat}(h:w.heap[k]?=some (.cells arr T fr)):yA w k=arr.size:=by simp [yA,h]
theorem zlP{μ:Nat→Nat}{nb d β k:Nat}(hk:k<nb):upd μ (nb+d) β k=μ k:=yl _ _ (by omega)
theorem Rel.putR(R:Rel ren we ωe U O σ a w ω μ){T:Nat}(hT:σ.t.length≤T){v:V}{u:Value}(hr:Rep ren (env U σ w ω μ) (.slot T 0) v u){nb:Nat}{dst:Option Nat}{pin:Bool}{σ':St}(hp:σ.putR nb dst pin v=some σ') :
  ∃ ω' μ',Rel ren we ωe U O σ' (a.put dst u) w ω' μ'∧∀ k,k<nb→μ' k=μ k:=by
 have plain:σ'=σ.put dst v→∃ ω' μ',Rel ren we ωe U O σ' (a.put dst u) w ω' μ'∧∀ k,k<nb→μ' k=μ k:=by
  intro e
  subst e
  cases dst with
  | none=>exact ⟨ω,μ,R,fun _ _=>rfl⟩
  | some d=>
   refine ⟨zhZ T d ω,μ,(R.renSlot hT d).put (some d) (fun i hi=>?_),fun _ _=>rfl⟩
   cases hi
   have:=hr.renSlot (T:=T) (d:=d)
   simpa [Loc.rn] using this
 cases v with
 | gs sz es=>
  simp only [St.putR] at hp
  split at hp
  ·cases hp
  ·cases hp; exact plain rfl
 | fr sz es=>
  simp only [St.putR,St.putG] at hp
  split at hp
  ·rename_i hpin
   obtain ⟨d,rfl,hg,rfl⟩:=zfe hp
   have hlt:nb+d<σ.b.length:=(Wi.1 hg).1
   cases hr with
   | pure h=>cases h
   | fr0 _ A=>
    obtain ⟨F,R'⟩:=R.empty hg true
    exact ⟨_,_,R'.put (some d) (fun i hi=>.own (nb+d) 0 0 sz 0 0 A (zed hlt _ _) (by omega) ⟨by omega,fun _=>.inr rfl⟩ (.inr ⟨rfl,rfl⟩)),fun _ _=>rfl⟩
   | fr _ _ β c arr Ty f hω hb hc hn hsz hcell h1 h=>
    have hfl:=yV hsz
    have hle:es.length*sz≤c*sz:=WI sz hn.1
    obtain ⟨F,R'⟩:=R.adopt hT (β:=β) hω hg true es.flatten arr Ty hb (by omega) (fun j cc hj=>⟨f j,hcell j cc hj,h1 j cc hj,h j cc hj⟩)
    refine ⟨_,_,R'.put (some d) (fun i hi=>?_),fun k hk=>zlP hk⟩
    refine .own (nb+d) 0 es.length sz c es.flatten.length _ (zed hlt _ _) (by omega) ⟨hn.1,fun h0=>zzF hsz h0 hn.2⟩ (.inl ⟨by show some (Addr.mk β 0 none)=some ⟨upd μ (nb+d) β (nb+d),0,none⟩; rw [xv],?_⟩)
    show 0+c*sz≤yA w (upd μ (nb+d) β (nb+d))
    have hb':w.heap[β]?=some (.cells arr Ty (0,0)):=hb
    rw [xv,zbl hb']; omega
  ·cases hp
   cases hr with
   | pure h=>cases h
   | fr0 _ A=>
    cases dst with
    | none=>exact ⟨ω,μ,R,fun _ _=>rfl⟩
    | some d=>exact ⟨ω,μ,R.put (some d) (fun i hi=>.pure (.nil _ _)),fun _ _=>rfl⟩
   | fr _ _ β c arr Ty f hω hb hc hn hsz hcell h1 h=>
    cases dst with
    | none=>exact ⟨ω,μ,R,fun _ _=>rfl⟩
    | some d=>
     obtain ⟨F,R'⟩:=R.reown hT (β:=β) hω (.slot d 0) (es.length*sz) (W8 _)
     refine ⟨_,_,R'.put (some d) (fun i hi=>?_),fun _ _=>rfl⟩
     cases hi
     exact .gs sz es β c arr Ty f (xv _ _ _) hb hc hn.1 hsz hcell h1 (fun i v hv=>(h i v hv).mono F.st)
 | bx p cs=>
  simp only [St.putR] at hp
  obtain ⟨d,rfl,hg,rfl⟩:=zfe hp
  have hlt:nb+d<σ.b.length:=(Wi.1 hg).1
  cases hr with
  | pure h=>cases h
  | bx _ _ β arr Ty f hω hb hn hcell h1 h=>
   obtain ⟨F,R'⟩:=R.adopt hT (β:=β) hω hg p cs arr Ty hb hn (fun j cc hj=>⟨f j,hcell j cc hj,h1 j cc hj,h j cc hj⟩)
   refine ⟨_,_,R'.put (some d) (fun i hi=>?_),fun k hk=>zlP hk⟩
   have:=Rep.ptr (ren:=ren) (E:=env U (σ.setB (nb+d) (.live p cs)) w (upd ω β (.blk (nb+d))) (upd μ (nb+d) β)) (l:=.slot i 0) (nb+d) 0 cs.length (zed hlt _ _)
   simpa [env,xv] using this
 | _=>cases hp; exact plain rfl
end
section
variable {ren:Rn} {we:World} {ωe:Nat→Ow} {U:Nat→Nat→Prop} {O:Nat→Prop} {σ:St} {a:Act} {w:World} {ω:Nat→Ow} {μ:Nat→Nat} {P:Program} {nb:Nat}
def StepOk(P:Program)(ren:Rn)(we:World)(ωe:Nat→Ow)(U:Nat→Nat→Prop)(O:Nat→Prop)(a:Act)(w:World)(o:Oper)(σ':St)(nb:Nat)(μ:Nat→Nat):Prop:=
 ∀ (K:Act→World→Prop) (Q:Exit→Act→World→Prop),(∀ a' w' ω' μ',Rel ren we ωe U O σ' a' w' ω' μ'→(∀ k,k<nb→μ' k=μ k)→K a' w')→o.wp P a w K Q
theorem StepOk.value{o:Oper}{σ':St}{u:Value}{w':World}(h:(execOp a.eval o).run P w=.ok (.value u) w')(hR:∃ ω' μ',Rel ren we ωe U O σ' (a.put o.dst u) w' ω' μ'∧∀ k,k<nb→μ' k=μ k):StepOk P ren we ωe U O a w o σ' nb μ:=by
 intro K Q hK
 unfold Oper.wp
 rw [h]
 obtain ⟨ω',μ',R,hm⟩:=hR
 exact hK _ _ _ _ R hm
theorem StepOk.skip{o:Oper}{σ':St}{w':World}(h:(execOp a.eval o).run P w=.ok .skip w')(hR:∃ ω' μ',Rel ren we ωe U O σ' (a.put o.dst undef) w' ω' μ'∧∀ k,k<nb→μ' k=μ k):StepOk P ren we ωe U O a w o σ' nb μ:=by
 intro K Q hK
 unfold Oper.wp
 rw [h]
 obtain ⟨ω',μ',R,hm⟩:=hR
 exact hK _ _ _ _ R hm
theorem StepOk.gives(R:Rel ren we ωe U O σ a w ω μ){o:Oper}{v:V}(h:za9 P ren (env U σ w ω μ) a o v):StepOk P ren we ωe U O a w o (σ.put o.dst v) nb μ:=by
 obtain ⟨u,h1,h2⟩:=h
 exact .value h1 ⟨ω,μ,R.put _ (fun i _=>h2 _),fun _ _=>rfl⟩
theorem zzY(R:Rel ren we ωe U O σ a w ω μ){o:Oper}{x:Operand}(hop:o.op=.move x∨o.op=.assign x){s:Src}{t:TypeId}(hs:yj P ren t x=some s){nb:Nat}{cb:CB}{take pin:Bool}{σ':St}(h:yd cb nb σ o.dst pin (.move s take)=some σ'):StepOk P ren we ωe U O a w o σ' nb μ:=by
 have run:(execOp a.eval o).run P w=.ok (.value (a.eval x)) w:=by
  rcases hop with e | e <;> simp [execOp,e]
 refine .value run ?_
 simp only [yd] at h
 split at h
 ·cases h
 ·split at h
  ·cases h
   obtain ⟨c1,c2⟩:=R.opndC hs
   cases hd:o.dst with
   | none=>
    exact ⟨ω,μ,R.demote s,fun _ _=>rfl⟩
   | some d=>
    by_cases htup:∃ x xs,s.get σ=.tup (x::xs)
    ·obtain ⟨y,ys,hy⟩:=htup
     cases s with
     | const v=>
      have hy:v=.tup (y::ys):=hy
      subst hy
      have hC:=c2 _ rfl (.slot d 0)
      exact ⟨ω,μ,(R.demote (.const (.tup (y::ys)))).put (some d) (fun i hi=>by cases hi; exact hC),fun _ _=>rfl⟩
     | tmp t=>
      have hr:=R.opnd hs
      rw [hy] at hr ⊢
      have hr:Rep ren (env U σ w ω μ) (.slot t 0) (.tup (y::ys)) (a.eval x):=hr
      have R1:=(R.demote (.tmp t)).renSlot' (T:=t) (fun v hv=>by
       simp only [St.demote] at hv
       rw [List.getElem?_modify] at hv
       have hy:σ.t.getD t .junk=.tup (y::ys):=hy
       cases hv':σ.t[t]? with
       | none=>simp [hv'] at hv
       | some v'=>
        rw [Ws,hv'] at hy
        simp [hv'] at hv hy
        subst hy; subst hv; rfl) d
      refine ⟨_,μ,R1.put (some d) (fun i hi=>?_),fun _ _=>rfl⟩
      cases hi
      have:Rep ren (env U σ w (zhZ t d ω) μ) (.slot d 0) (.tup (y::ys)) (a.eval x):=by simpa [Loc.rn] using hr.renSlot (T:=t) (d:=d)
      exact this
    have hmv:(s.get σ).mv=(s.get σ).tk:=by
     cases hv:s.get σ with
     | tup vs=>
      cases vs with
      | nil=>rfl
      | cons y ys=>exact absurd ⟨y,ys,hv⟩ htup
     | _=>rfl
    rw [hmv]
    obtain ⟨ω',F,R',hr,_⟩:=R.taken s (R.opnd hs) c1 c2 (.slot d 0)
    refine ⟨ω',μ,R'.put (some d) (fun i hi=>?_),fun _ _=>rfl⟩
    cases hi
    have e:env U (σ.demote s) w ω' μ=env U σ w ω' μ:=by cases s <;> rfl
    rw [e]; exact hr
  ·cases h
   exact ⟨ω,μ,R.put _ (fun i _=>(R.opnd hs).dem R.hU _),fun _ _=>rfl⟩
theorem zQv{t:TypeId}{i:TypeInfo}{z:Value}(hi:P.info? t=some i)(hz:i.zero=some z)(w:World):(Instr.alloc t true (.tuple #[])).run P w=.ok (.pointer (some ⟨w.heap.size,0,none⟩)) (w.alloc (.cells z.cells t)):=by
 simp [Instr.alloc,zeroValue,typeInfo,hi,hz,newVar,newRow]
theorem zIF{nb d:Nat}{p:Bool}{cs:List V}{arr:Array Value}{T:TypeId}(hg:σ.b[nb+d]?=some .gone)(i:Nat):Rep ren (env U (σ.setB (nb+d) (.live p cs)) (w.alloc (.cells arr T)) (upd ω w.heap.size (.blk (nb+d))) (upd μ (nb+d) w.heap.size)) (.slot i 0) (.ptr (nb+d) 0) (.pointer (some ⟨w.heap.size,0,none⟩)):=by
 have hlt:nb+d<σ.b.length:=(Wi.1 hg).1
 have:=Rep.ptr (ren:=ren) (E:=env U (σ.setB (nb+d) (.live p cs)) (w.alloc (.cells arr T)) (upd ω w.heap.size (.blk (nb+d))) (upd μ (nb+d) w.heap.size)) (l:=.slot i 0) (nb+d) 0 cs.length (zed hlt _ _)
 simpa [env,xv] using this
theorem zAC{Wr:Nat→Nat→Prop}{cs:List V}{arr:Array Value}(h:CellsP ren w Wr cs arr.toList):cs.length≤arr.size∧∀ (j:Nat) (c:V),cs[j]?=some c→∃ u,arr[j]?=some u∧u.oneCell'=true∧RepP ren w Wr c u:=by
 refine ⟨by have:=h.1; simp at this; omega,fun j c hc=>?_⟩
 obtain ⟨u,g⟩:=h.2 j c hc
 exact ⟨u,by simpa using g⟩
theorem zNh{xs:List Nat}{z:List V}{j:Nat}{c:V}(h:(frz xs z)[j]?=some c):∃ c0,z[j]?=some c0∧(c=c0∨(c=zMc c0∧xs.contains j=true)):=by
 unfold frz at h
 rw [List.getElem?_map,List.getElem?_zipIdx] at h
 cases hz:z[j]? with
 | none=>rw [hz] at h; cases h
 | some c0=>
  rw [hz] at h
  simp only [Option.map_some,Wg,Nat.zero_add] at h
  refine ⟨c0,rfl,?_⟩
  split at h
  ·rename_i hx; exact .inr ⟨h.symm,hx⟩
  ·exact .inl h.symm
theorem zMj{w:World}{Wr:Nat→Nat→Prop}{c:V}{u:Value}(h:RepP ren w Wr c u):zMc c=c∨∀ (E:En) (l:Loc),Rep ren E l (zMc c) u:=by
 cases h with
 | ful sz es A f hsz k o hA hcell h1 h hon=>cases es with
  | nil=>exact .inr fun E l=>.fr0 sz A
  | cons e es=>exact .inl rfl
 | _=>exact .inl rfl
theorem zOI(R:Rel ren we ωe U O σ a w ω μ){o:Oper}{t:TypeId}(hop:o.op=.alloc t){z:List V}(hz:zgv P t=some z){nb:Nat}{cb:CB}{p pin:Bool}{σ':St}{xs:List Nat}(hxs:xs.isEmpty=true∨p=false)(h:yd cb nb σ o.dst pin (.alloc p (frz xs z))=some σ'):StepOk P ren we ωe U O a w o σ' nb μ:=by
 obtain ⟨i,zv,hi,hzv,hc⟩:=zhc (ren:=ren) (w:=w) (Wr:=wr U ω) hz
 simp only [yd] at h
 obtain ⟨d,hd,hg,rfl⟩:=zfe h
 refine .value (u:=.pointer (some ⟨w.heap.size,0,none⟩)) (w':=w.alloc (.cells zv.cells t)) (by simp [execOp,hop,zQv hi hzv]) ?_
 obtain ⟨q1,q2⟩:=zAC hc
 obtain ⟨F,R'⟩:=R.newBlockG hg p (frz xs z) zv.cells t (by simp only [frz,List.length_map,List.length_zipIdx]; exact q1) (fun j c hj=>by
  obtain ⟨c0,h0,e⟩:=zNh hj
  obtain ⟨u,g1,g2,g3⟩:=q2 j c0 h0
  refine ⟨u,g1,g2,?_⟩
  rcases e with rfl | ⟨rfl,hx⟩
  ·exact .inl g3
  ·rcases zMj g3 with e | e
   ·rw [e]; exact .inl g3
   ·rcases hxs with hxs | hxs
    ·cases xs with
     | nil=>cases hx
     | cons _ _=>cases hxs
    ·exact .inr ⟨hxs,.inr e⟩)
 exact ⟨_,_,by rw [hd]; exact R'.put (some d) (fun i _=>zIF hg i),fun k hk=>zlP hk⟩
theorem zSO(R:Rel ren we ωe U O σ a w ω μ){o:Oper}{t:TypeId}{x:Operand}(hop:o.op=.box t x){s:Src}{t1:TypeId}(hs:yj P ren t1 x=some s){nb:Nat}{cb:CB}{p pin:Bool}{σ':St}(h:yd cb nb σ o.dst pin (.box p s)=some σ'):StepOk P ren we ωe U O a w o σ' nb μ:=by
 simp only [yd] at h
 split at h
 ·rename_i cs hgs
  cases p with
  | true=>simp at h
  | false=>
   simp only [Bool.false_eq_true,if_false] at h
   obtain ⟨d,hd,hg,rfl⟩:=zfe h
   have hr:=R.opnd hs
   rw [hgs] at hr
   obtain ⟨us,eu,hl,hc,h1⟩:=hr.st_inv
   refine .value (u:=.pointer (some ⟨w.heap.size,0,none⟩)) (w':=w.alloc (.cells us.toArray t)) (by simp [execOp,hop,Instr.box,newVar,newRow,eu,Value.cells]) ?_
   obtain ⟨F,R'⟩:=R.newBlockG hg false cs us.toArray t (by simp [hl]) (fun j c hj=>by
    have hlt:j<us.length:=by rw [← hl]; exact (Wi.1 hj).1
    refine ⟨us[j],by simp [hlt],h1 _ (W2 hlt),?_⟩
    rcases hc j c _ hj (Wc hlt) with q | q
    ·exact .inl q
    ·exact .inr ⟨rfl,.inl q⟩)
   exact ⟨_,_,by rw [hd]; exact R'.put (some d) (fun i _=>zIF hg i),fun k hk=>zlP hk⟩
 split at h
 ·rename_i v hv
  obtain ⟨d,hd,hg,rfl⟩:=zfe h
  have hr:=(R.opnd hs).plain R.hU hv
  refine .value (u:=.pointer (some ⟨w.heap.size,0,none⟩)) (w':=w.alloc (.cells (a.eval x).cells t)) (by simp [execOp,hop,Instr.box,newVar,newRow]) ?_
  obtain ⟨q1,q2⟩:=zAC hr.cellsP
  obtain ⟨F,R'⟩:=R.newBlock hg p v.cells (a.eval x).cells t q1 q2
  exact ⟨_,_,by rw [hd]; exact R'.put (some d) (fun i _=>zIF hg i),fun k hk=>zlP hk⟩
 ·cases h
theorem zxJ(R:Rel ren we ωe U O σ a w ω μ){nb:Nat}{dst:Option Nat}{pin:Bool}{sz:Nat}{es:Ls}{σ':St}(h:σ.putG nb dst pin sz es=some σ'){arr:Array Value}{T:TypeId}{c:Nat}(hsz:∀ e∈es,e.length=sz)(hn:es.length≤c)(hpz:pin=true→es=[]→c=0)(hc:c*sz≤arr.size)
  (hcell:∀ (i:Nat) (v:V),es.flatten[i]?=some v→∃ u,arr[i]?=some u∧u.oneCell'=true∧RepP ren w (wr U ω) v u) :
  ∃ ω' μ',Rel ren we ωe U O σ' (a.put dst (.slice (some ⟨w.heap.size,0,none⟩) es.length c)) (w.alloc (.cells arr T)) ω' μ'∧∀ k,k<nb→μ' k=μ k:=by
 have hfl:=yV hsz
 have hle:es.length*sz≤c*sz:=WI sz hn
 have hnew:(w.alloc (.cells arr T)).heap[w.heap.size]?=some (.cells arr T (0,0)):=heap_alloc_new w _
 unfold St.putG at h
 split at h
 ·rename_i hpin
  obtain ⟨d,rfl,hg,rfl⟩:=zfe h
  have hlt:nb+d<σ.b.length:=(Wi.1 hg).1
  obtain ⟨F,R'⟩:=R.newBlock hg true es.flatten arr T (by omega) hcell
  refine ⟨_,_,R'.put (some d) (fun i _=>?_),fun k hk=>zlP hk⟩
  refine .own (nb+d) 0 es.length sz c es.flatten.length _ (zed hlt _ _) (by omega) ⟨hn,fun h0=>zzF hsz h0 (fun q=>.inr (hpz hpin q))⟩ (.inl ⟨by show some (Addr.mk w.heap.size 0 none)=some ⟨upd μ (nb+d) w.heap.size (nb+d),0,none⟩; rw [xv],?_⟩)
  show 0+c*sz≤yA (w.alloc (.cells arr T)) (upd μ (nb+d) w.heap.size (nb+d))
  rw [xv,zbl hnew]; omega
 ·cases h
  cases dst with
  | none=>
   obtain ⟨F,R'⟩:=R.newGs (.slot 0 0) 0 arr T
   exact ⟨_,_,R',fun _ _=>rfl⟩
  | some d=>
   obtain ⟨F,R'⟩:=R.newGs (.slot d 0) (es.length*sz) arr T
   refine ⟨_,_,R'.put (some d) (fun i hi=>?_),fun _ _=>rfl⟩
   cases hi
   refine .gs sz es w.heap.size c arr T (fun i=>arr.toList.getD i undef) (xv _ _ _) hnew hc hn hsz (fun i v hv=>?_) (fun i v hv=>?_) (fun i v hv=>?_) <;>
    (obtain ⟨u,g1,g2,g3⟩:=hcell i v hv
     have g1':arr.toList[i]?=some u:=by simpa using g1
     have e:arr.toList.getD i undef=u:=by rw [Ws,g1']; rfl
     simp only [e])
   ·exact g1
   ·exact g2
   ·exact g3.mono F.st
theorem zN2(R:Rel ren we ωe U O σ a w ω μ){nb:Nat}{dst:Option Nat}{sz len:Nat}{cs:List V}{σ':St}(h:σ.newB nb dst (.live true cs) (fun id=>.own id 0 len sz)=some σ'){arr:Array Value}{T:TypeId}{c:Nat}(hlen:len*sz≤cs.length)(hn:len≤c)(hz:cs.length=0→sz=0∨c=0)(hc:c*sz≤arr.size)(hca:cs.length≤arr.size)
  (hcell:∀ (i:Nat) (v:V),cs[i]?=some v→∃ u,arr[i]?=some u∧u.oneCell'=true∧RepP ren w (wr U ω) v u) :
  ∃ ω' μ',Rel ren we ωe U O σ' (a.put dst (.slice (some ⟨w.heap.size,0,none⟩) len c)) (w.alloc (.cells arr T)) ω' μ'∧∀ k,k<nb→μ' k=μ k:=by
 have hnew:(w.alloc (.cells arr T)).heap[w.heap.size]?=some (.cells arr T (0,0)):=heap_alloc_new w _
 obtain ⟨d,rfl,hg,rfl⟩:=zfe h
 have hlt:nb+d<σ.b.length:=(Wi.1 hg).1
 obtain ⟨F,R'⟩:=R.newBlock hg true cs arr T hca hcell
 refine ⟨_,_,R'.put (some d) (fun i _=>?_),fun k hk=>zlP hk⟩
 refine .own (nb+d) 0 len sz c cs.length _ (zed hlt _ _) (by omega) ⟨hn,hz⟩ (.inl ⟨by show some (Addr.mk w.heap.size 0 none)=some ⟨upd μ (nb+d) w.heap.size (nb+d),0,none⟩; rw [xv],?_⟩)
 show 0+c*sz≤yA (w.alloc (.cells arr T)) (upd μ (nb+d) w.heap.size (nb+d))
 rw [xv,zbl hnew]; omega
theorem zJ5{α:Type}(l:List α)(n i:Nat):((We n l).flatten)[i]?=if i<n*l.length then l[i % l.length]? else none:=by
 induction n generalizing i with
 | zero=>simp
 | succ n ih=>
  rw [List.replicate_succ,List.flatten_cons,Nat.add_mul,Nat.one_mul]
  by_cases h:i<l.length
  ·rw [List.getElem?_append_left h,if_pos (by omega),Nat.mod_eq_of_lt h]
  ·rw [List.getElem?_append_right (by omega),ih]
   by_cases h2:i-l.length<n*l.length
   ·rw [if_pos h2,if_pos (by omega),← Nat.mod_eq_sub_mod (by omega)]
   ·rw [if_neg h2,if_neg (by omega)]
theorem zl3{Wr:Nat→Nat→Prop}{z:List V}{zv:Value}(hz:CellsP ren w Wr z zv.cells.toList)(n:Nat)(m:Nat)(hm:n*z.length≤m)(hpos:0<z.length):∀ (i:Nat) (v:V),((We n z).flatten)[i]?=some v→∃ u,((W4 m).map (fun i=>zv.cells[i % zv.cells.size]!))[i]?=some u∧u.oneCell'=true∧RepP ren w Wr v u:=by
 intro i v hv
 rw [zJ5] at hv
 split at hv
 ·rename_i hi
  obtain ⟨u,g1,g2,g3⟩:=hz.2 _ v hv
  refine ⟨u,?_,g2,g3⟩
  have e:zv.cells.size=z.length:=by have:=hz.1; simp at this; omega
  have him:i<m:=by omega
  have hmod:i % z.length<zv.cells.size:=by rw [e]; exact Nat.mod_lt _ hpos
  have g1':zv.cells[i % z.length]?=some u:=by simpa using g1
  simp only [Array.getElem?_map,Array.getElem?_range,him,if_true,Option.map_some,e]
  rw [Array.getElem?_eq_getElem hmod] at g1'
  cases g1'
  simp [hmod]
 ·cases hv
theorem zHz(R:Rel ren we ωe U O σ a w ω μ){o:Oper}{t e:TypeId}{l c:Operand}(hop:o.op=.makeSlice t l c)(ht:P.underlying t=some (.slice e)){z:List V}(hz:zgv P e=some z){sz:Nat}(hsz:xx P e=some sz){i:TypeInfo}(hi:P.info? e=some i)(hpos:0<sz)(hzl:z.length=sz)
  {sl sc:Src} {t1 t2:TypeId} (h1:yj P ren t1 l=some sl) (h2:yj P ren t2 c=some sc) {nb:Nat} {cb:CB} {pin:Bool} {σ':St} (h:yd cb nb σ o.dst pin (.makeSlice sz i.bytes (z.map V.dem) sl sc)=some σ'):StepOk P ren we ωe U O a w o σ' nb μ:=by
 obtain ⟨i',zv,hi',hzv,hcz⟩:=zhc (ren:=ren) (w:=w) (Wr:=wr U ω) hz
 rw [hi] at hi'; cases hi'
 obtain ⟨i2,hi2,e2⟩:=zeu hsz
 rw [hi] at hi2; cases hi2
 simp only [yd] at h
 split at h
 ·rename_i n m hn hm
  split at h
  ·rename_i hb
   obtain ⟨k1,e1⟩:=(R.opnd h1).int hn
   obtain ⟨k2,e3⟩:=(R.opnd h2).int hm
   have hbytes:(i.bytes:Int)*m≤281474976710656:=by
    have hle:=hb.2.2.1
    unfold zg at hle
    have e:((m.toNat*i.bytes:Nat):Int)≤140737488355328:=by omega
    rw [Int.natCast_mul,Int.toNat_of_nonneg (by omega),Int.mul_comm] at e
    omega
   have run:=run_make (P:=P) w t e i zv ht hi hzv k1 k2 n m hb.1 hb.2.1 hbytes (by have:=hb.2.2.2; unfold zg at this; omega)
   refine .value (u:=.slice (some ⟨w.heap.size,0,none⟩) n.toNat m.toNat) (w':=w.alloc (.cells (madeCells zv.cells (m.toNat*i.size)) e)) (by simp [execOp,hop,e1,e3,run]) ?_
   have hd:=zkj hcz
   have hzl':(z.map V.dem).length=sz:=by simp [hzl]
   have hlen:(We n.toNat (z.map V.dem)).length=n.toNat:=by simp
   split at h
   ·have hfl:(We m.toNat (z.map V.dem)).flatten.length=m.toNat*sz:=by simp [List.length_flatten,hzl]
    exact zN2 R h (arr:=madeCells zv.cells (m.toNat*i.size)) (T:=e) (c:=m.toNat) (by rw [hfl]; exact WI sz (by omega)) (by omega) (fun q=>by
     rw [hfl] at q
     rcases W3.1 q with q | q
     ·exact .inr q
     ·exact .inl q) (by simp [madeCells,e2]) (by rw [hfl]; simp [madeCells,e2])
     (fun j v hv=>by
      have:=zl3 hd m.toNat (m.toNat*i.size) (by rw [hzl',e2]; exact Wq _) (by omega) j v hv
      simpa [madeCells] using this)
   have key:=zxJ R h (arr:=madeCells zv.cells (m.toNat*i.size)) (T:=e) (c:=m.toNat) (fun x hx=>by rw [W0 hx]; exact hzl') (by rw [hlen]; omega) (fun q=>by cases q) (by simp [madeCells,e2])
    (fun j v hv=>by
     have:=zl3 hd n.toNat (m.toNat*i.size) (by rw [hzl',e2]; exact WI sz (by omega)) (by omega) j v hv
     simpa [madeCells] using this)
   rw [hlen] at key
   exact key
  ·cases h
 ·cases h
end
section
variable {ren:Rn} {we:World} {ωe:Nat→Ow} {U:Nat→Nat→Prop} {O:Nat→Prop} {σ:St} {a:Act} {w:World} {ω:Nat→Ow} {μ:Nat→Nat} {P:Program} {nb:Nat}
theorem zGO(R:Rel ren we ωe U O σ a w ω μ){o:Oper}{t e:TypeId}{n:Nat}{parts:Array (Nat × Operand)}(hop:o.op=.buildSlice t n parts)(ht:P.underlying t=some (.slice e)){z:List V}(hz:zgv P e=some z){sz:Nat}(hsz:xx P e=some sz)(hpos:0<sz)(hzl:z.length=sz)(hbig:n*sz≤1000000)
  {ps:List (Nat × Nat × Src)} (hps:zkp P ren (fun i=>some (i*sz,e)) parts.toList=some ps) {nb:Nat} {cb:CB} {pin:Bool} {σ':St} (h:yd cb nb σ o.dst pin (.buildSlice sz n (z.map V.dem) ps)=some σ'):StepOk P ren we ωe U O a w o σ' nb μ:=by
 obtain ⟨i,zv,hi,hzv,hcz⟩:=zhc (ren:=ren) (w:=w) (Wr:=wr U ω) hz
 obtain ⟨i2,hi2,e2⟩:=zeu hsz
 rw [hi] at hi2; cases hi2
 simp only [yd,Wb,Wa] at h
 obtain ⟨cs',hf,h⟩:=h
 have hd:=zkj hcz
 have hzl':(z.map V.dem).length=sz:=by simp [hzl]
 have hbig':¬ (2 ^ 24<n*sz):=by omega
 let zero:Array Value:=if n*sz=0 then #[] else zv.cells
 have hzero:zero=if n*sz=0 then #[] else zv.cells:=rfl
 have hinit:CellsP ren w (wr U ω) (We n (z.map V.dem)).flatten ((W4 (n*sz)).map (fun i=>zero[i % zero.size]!)).toList:=by
  refine ⟨?_,fun j v hv=>?_⟩
  ·rw [yV (sz:=sz) (fun x hx=>by rw [W0 hx]; exact hzl')]; simp
  ·have hn0:n*sz≠0:=by
    intro h0
    have:n=0:=by
     rcases W3.1 h0 with h | h
     ·exact h
     ·omega
    subst this
    simp at hv
   rw [hzero,if_neg hn0]
   obtain ⟨u,g1,g2⟩:=zl3 hd n (n*sz) (by rw [hzl']; exact Wq _) (by omega) j v hv
   exact ⟨u,by rw [W5]; exact g1,g2⟩
 obtain ⟨arr',g1,g2⟩:=zEo R (fun i=>some (i*sz,e)) (fun i=>some (i*sz,sz)) (fun i off ty m h1 h2=>by simp at h1; obtain ⟨rfl,rfl⟩:=h1; rw [hsz] at h2; cases h2; rfl) parts.toList ps _ cs' _ hps hf hinit
 have g1':Instr.fill (fun i=>some (i*sz,sz)) ((W4 (n*sz)).map (fun i=>zero[i % zero.size]!)) ((parts.map fun (i,x)=>(i,a.eval x)).toList)=some arr':=by simpa using g1
 have run:(Instr.buildSlice t n (parts.map fun (i,x)=>(i,a.eval x))).run P w=.ok (.slice (some ⟨w.heap.size,0,none⟩) n n) (w.alloc (.cells arr' e)):=by
  unfold Instr.buildSlice
  by_cases h0:n*sz=0
  ·have hz0:zero=#[]:=by rw [hzero,if_pos h0]
   rw [hz0] at g1'
   simp only [Sem.run_bind,run_underlying ht,zab hsz,WD]
   simp [h0] at g1' ⊢
   simp [g1',newRow]
  ·have hz0:zero=zv.cells:=by rw [hzero,if_neg h0]
   rw [hz0] at g1'
   simp only [Sem.run_bind,run_underlying ht,zab hsz,WD]
   have hnb:¬ (16777216<n*sz):=by omega
   have g1'':Instr.fill (fun i=>some (i*sz,sz)) ((W4 (n*sz)).map (fun i=>zv.cells[i % zv.cells.size]!)) (List.map (fun x=>(x.fst,a.eval x.snd)) parts.toList)=some arr':=by simpa using g1'
   simp [h0,hnb,zeroValue,typeInfo,hi,hzv,g1'',newRow]
 refine .value (u:=.slice (some ⟨w.heap.size,0,none⟩) n n) (w':=w.alloc (.cells arr' e)) (by simp [execOp,hop,run]) ?_
 have hl':cs'.length=n*sz:=by
  have h1:=g2.1
  have h2:∀ (ps:List (Nat × Nat × Src)) (cs cs':List V),zcA σ ps cs=some cs'→cs'.length=cs.length:=by
   intro ps
   induction ps with
   | nil=>intro cs cs' h; cases h; rfl
   | cons p ps ih=>
    obtain ⟨off,m,x⟩:=p
    intro cs cs' h
    simp only [zcA,Wb,Wa] at h
    obtain ⟨v,_,h⟩:=h
    split at h
    ·rename_i hc
     rw [ih _ _ h,znw (by omega)]
    ·cases h
  rw [h2 _ _ _ hf,yV (sz:=sz) (fun x hx=>by rw [W0 hx]; exact hzl')]; simp
 obtain ⟨q1,q2⟩:=zAC g2
 by_cases hc:n=0∧pin=true
 ·rw [if_pos hc] at h
  cases h
  obtain ⟨rfl,_⟩:=hc
  obtain ⟨F,R'⟩:=R.newGs (.slot 0 0) 0 arr' e
  exact ⟨_,_,R'.put o.dst (fun _ _=>.fr0 sz _),fun _ _=>rfl⟩
 rw [if_neg hc] at h
 have key:=zxJ R h (arr:=arr') (T:=e) (c:=n) (za2 _ _ _ (by omega)) (by rw [zw]; exact Wq _) (fun _ he=>by rw [← zw sz n cs',he]; rfl) (by omega) (fun j v hv=>by
  rw [z9,List.take_of_length_le (by omega)] at hv
  exact q2 j v hv)
 rw [zw] at key
 exact key
theorem zkq{t:TypeId}{b:Bool}{n:Nat}(h1:zap P t=some b)(h2:xx P t=some n){k q:Nat}(us:List Value)(hb1:b=true→us.length=n)(hb2:b=false→us.length=1)(hc:∀ (j:Nat) (u:Value),us[j]?=some u→w.cell? ⟨k,q+j,none⟩=some u){o:Oper}{x:Operand}(hop:o.op=.load t x)(hx:a.eval x=.pointer (some ⟨k,q,none⟩)) :
  (execOp a.eval o).run P w=.ok (.value (if b then .agg us.toArray else us.getD 0 undef)) w:=by
 have hl:=run_loadCells_list (P:=P) w ⟨k,q,none⟩ us (fun j u hu=>by rw [zc6]; exact hc j u hu)
 simp only [execOp,hop,hx,Instr.loadAt,Instr.sureAddr,Sem.run_bind,Sem.run_pure,WD,loadVar,zAD h1]
 cases b with
 | true=>
  rw [hb1 rfl] at hl
  simp only [if_true,Sem.run_bind,zab h2,WD,hl,Sem.run_pure]
 | false=>
  cases us with
  | nil=>simp at hb2
  | cons u us=>
   have:=hc 0 u rfl
   simp only [W1] at this
   simp [load,Sem.run,this]
theorem zBe(R:Rel ren we ωe U O σ a w ω μ){o:Oper}{t:TypeId}{x:Operand}(hop:o.op=.load t x){b:Bool}{n:Nat}(h1:zap P t=some b)(h2:xx P t=some n){s:Src}{t1:TypeId}(hs:yj P ren t1 x=some s){m:Nat}{cs:List V}(hg:s.get σ=.fp m cs){v:V}
  (hv:(b=true∧n≤m∧v=.agg (cs.take n))∨(b=false∧cs[0]?=some v)):StepOk P ren we ωe U O a w o (σ.put o.dst v) nb μ:=by
 have hr:=R.opnd hs
 rw [hg] at hr
 obtain ⟨k,q,f,ex,hl,hcell,g1,g2⟩:=hr.fp_inv
 rcases hv with ⟨rfl,hn,rfl⟩ | ⟨rfl,hv⟩
 ·have hcs:∀ (j:Nat) (u:Value),((Wy n).map f)[j]?=some u→w.cell? ⟨k,q+j,none⟩=some u∧∃ c,cs[j]?=some c∧u=f j:=by
   intro j u hu
   rw [List.getElem?_map] at hu
   cases hj:(Wy n)[j]? with
   | none=>simp [hj] at hu
   | some j'=>
    have hjn:j<n:=by have:=(Wi.1 hj).1; simpa using this
    have hj':j'=j:=by rw [List.getElem?_range hjn] at hj; cases hj; rfl
    subst hj'
    simp [hj] at hu
    subst hu
    have hlt:j'<cs.length:=by omega
    have:=hcell j' _ (Wc hlt)
    exact ⟨this.2,_,Wc hlt,rfl⟩
  have run:=zkq (P:=P) (a:=a) (w:=w) h1 h2 ((Wy n).map f) (by simp) (by simp) (fun j u hu=>(hcs j u hu).1) hop ex
  refine .value run ⟨ω,μ,R.put _ (fun i _=>.pure ?_),fun _ _=>rfl⟩
  refine CellsP.agg (us:=(Wy n).map f) ⟨by simp; omega,fun i c hc=>?_⟩
  rw [Wn] at hc
  split at hc
  ·rename_i hin
   exact ⟨f i,by simp [hin],g1 i c hc,g2 i c hc⟩
  ·cases hc
 ·have run:=zkq (P:=P) (a:=a) (w:=w) h1 h2 [f 0] (by simp) (by simp) (fun j u hu=>by
   cases j with
   | zero=>simp at hu; subst hu; exact (hcell 0 v hv).2
   | succ j=>simp at hu) hop ex
  exact .value run ⟨ω,μ,R.put _ (fun i _=>.pure (g2 0 v hv)),fun _ _=>rfl⟩
theorem Rel.cellsAt{T:TypeId}{fr:Nat × Nat}{k:Nat}{arr:Array Value}(h:w.heap[k]?=some (.cells arr T fr)){off n:Nat}(hl:off+n≤arr.size):∀ (j:Nat) (u:Value),((arr.toList.drop off).take n)[j]?=some u→w.cell? ⟨k,off+j,none⟩=some u:=by
 intro j u hu
 rw [Wn] at hu
 split at hu
 ·rw [Wp] at hu
  rw [cell_of_row _ _ _ _ _ _ h]; simpa using hu
 ·cases hu
theorem zqO(R:Rel ren we ωe U O σ a w ω μ){o:Oper}{t:TypeId}{x:Operand}(hop:o.op=.load t x){n:Nat}(h1:zap P t=some true)(h2:xx P t=some n){s:Src}{t1:TypeId}(hs:yj P ren t1 x=some s){id off:Nat}(hg:s.get σ=.ptr id off){arr:Array Value}{T:TypeId}{fr:Nat × Nat}(hb:w.heap[μ id]?=some (.cells arr T fr)){vs:List V}
  (hl:off+n≤arr.size) (hvl:vs.length=n) (hc:∀ (j:Nat) (c:V),vs[j]?=some c→∃ u,arr[off+j]?=some u∧u.oneCell'=true∧RepP ren w (wr U ω) c u):StepOk P ren we ωe U O a w o (σ.put o.dst (.agg vs)) nb μ:=by
 have hr:=R.opnd hs
 rw [hg] at hr
 obtain ⟨L,hL,ex⟩:=hr.ptr_inv
 have run:=zkq (P:=P) (a:=a) (w:=w) h1 h2 ((arr.toList.drop off).take n) (by simp; omega) (by simp) (Rel.cellsAt hb hl) hop ex
 refine .value run ⟨ω,μ,R.put _ (fun i _=>.pure ?_),fun _ _=>rfl⟩
 refine CellsP.agg (us:=(arr.toList.drop off).take n) ⟨by simp; omega,fun j c hcj=>?_⟩
 obtain ⟨u,g1,g2,g3⟩:=hc j c hcj
 have hjn:j<n:=by have:=(Wi.1 hcj).1; omega
 refine ⟨u,?_,g2,g3⟩
 rw [Wn,if_pos hjn,Wp]; simpa using g1
theorem zLO(R:Rel ren we ωe U O σ a w ω μ){o:Oper}{t:TypeId}{x:Operand}(hop:o.op=.load t x){n:Nat}(h1:zap P t=some true)(h2:xx P t=some n){s:Src}{t1:TypeId}(hs:yj P ren t1 x=some s){id off:Nat}(hg:s.get σ=.ptr id off){arr:Array Value}{T:TypeId}{fr:Nat × Nat}(hb:w.heap[μ id]?=some (.cells arr T fr)){vs:List V}
  (hl:off+n≤arr.size) (hvl:vs.length=n) (hc:∀ (j:Nat) (c:V),vs[j]?=some c→∃ u,arr[off+j]?=some u∧u.oneCell'=true∧(RepP ren w (wr U ω) c u∨OwnAt (env U σ w ω μ) c u)):StepOk P ren we ωe U O a w o (σ.put o.dst (.st vs)) nb μ:=by
 have hr:=R.opnd hs
 rw [hg] at hr
 obtain ⟨L,hL,ex⟩:=hr.ptr_inv
 have run:=zkq (P:=P) (a:=a) (w:=w) h1 h2 ((arr.toList.drop off).take n) (by simp; omega) (by simp) (Rel.cellsAt hb hl) hop ex
 refine .value run ⟨ω,μ,R.put _ (fun i _=>?_),fun _ _=>rfl⟩
 have at_:∀ (j:Nat) (c:V),vs[j]?=some c→∃ u,((arr.toList.drop off).take n)[j]?=some u∧u.oneCell'=true∧(RepP ren w (wr U ω) c u∨OwnAt (env U σ w ω μ) c u):=by
  intro j c hcj
  obtain ⟨u,g1,g2,g3⟩:=hc j c hcj
  have hjn:j<n:=by have:=(Wi.1 hcj).1; omega
  refine ⟨u,?_,g2,g3⟩
  rw [Wn,if_pos hjn,Wp]; simpa using g1
 have hlen:((arr.toList.drop off).take n).length=n:=by simp; omega
 refine .st vs ((arr.toList.drop off).take n) (by omega) (fun j c u hcj hu=>?_) (fun u hu=>?_)
 ·obtain ⟨u',g1,g2,g3⟩:=at_ j c hcj
  rw [hu] at g1; cases g1
  exact g3
 ·obtain ⟨j,hj,e⟩:=W7 hu
  have hjv:j<vs.length:=by omega
  obtain ⟨u',g1,g2,g3⟩:=at_ j _ (Wc hjv)
  rw [Wc hj,e] at g1; cases g1
  exact g2
theorem Rep.refd{E:En}(hU:∀ β l h i,E.ω β=.gs l h→i<h→¬ E.Wr β i){l:Loc}{v v':V}{u:Value}(h:Rep ren E l v u)(hp:v.refd=some v'):RepP ren E.w E.Wr v' u∨OwnAt E v' u:=by
 cases v with
 | own id off len sz=>cases hp; exact .inr h.ownAt
 | _=>exact .inl (h.plain hU hp)
theorem zkT(R:Rel ren we ωe U O σ a w ω μ){o:Oper}{t:TypeId}{x:Operand}(hop:o.op=.load t x){n:Nat}(h1:zap P t=some false)(h2:xx P t=some n){s:Src}{t1:TypeId}(hs:yj P ren t1 x=some s){id off:Nat}(hg:s.get σ=.ptr id off){arr:Array Value}{T:TypeId}{fr:Nat × Nat}(hb:w.heap[μ id]?=some (.cells arr T fr)){u:Value}(hu:arr[off]?=some u){σ':St}(hR:∃ ω' μ',Rel ren we ωe U O σ' (a.put o.dst u) w ω' μ'∧∀ k,k<nb→μ' k=μ k):StepOk P ren we ωe U O a w o σ' nb μ:=by
 have hr:=R.opnd hs
 rw [hg] at hr
 obtain ⟨L,hL,ex⟩:=hr.ptr_inv
 have run:=zkq (P:=P) (a:=a) (w:=w) h1 h2 [u] (by simp) (by simp) (fun j u' hu'=>by
  cases j with
  | zero=>simp at hu'; subst hu'; show w.cell? ⟨μ id,off+0,none⟩=_; rw [W1,cell_of_row _ _ _ _ _ _ hb]; exact hu
  | succ j=>simp at hu') hop ex
 exact .value run hR
theorem Rel.setCellV(R:Rel ren we ωe U O σ a w ω μ){id:Nat}{cs:List V}(hid:σ.b[id]?=some (.live false cs)){off:Nat}{v:V}(hv:cs[off]?=some v):Rel ren we ωe U O (σ.setB id (.live false (cs.set off v.dem))) a w ω μ:=by
 have hlt:id<σ.b.length:=(Wi.1 hid).1
 have hne:cs≠[]:=by rintro rfl; simp at hv
 obtain ⟨e0,arr,T,e1,e2,e3⟩:=R.live hid hne
 obtain ⟨F,key⟩:=R.write hid hne (cs':=cs.set off v.dem) (by simp) e1 rfl e1 (fun k _=>rfl) (Kept.refl _ w)
 refine key (fun j c hc=>?_)
 by_cases hj:j=off
 ·subst hj
  rw [WF (Wi.1 hv).1] at hc
  cases hc
  obtain ⟨u,g1,g2,_,g4⟩:=e3 j v hv
  refine ⟨u,g1,g2,by simp,Rep.frame0 F (fun l=>g4.dem R.hU l) (fun x xs=>?_) _⟩
  cases v with
  | tup vs=>cases vs <;> simp [V.dem]
  | _=>simp [V.dem]
 ·rw [WE (fun e=>hj e.symm)] at hc
  obtain ⟨u,g1,g2,g3,g4⟩:=e3 j c hc
  exact ⟨u,g1,g2,by simp,g4.frame F (fun l β h _ e=>⟨e,rfl⟩)⟩
theorem Rel.takenCell(R:Rel ren we ωe U O σ a w ω μ){id:Nat}{cs:List V}(hid:σ.b[id]?=some (.live false cs)){off:Nat}{v:V}(hv:cs[off]?=some v){u:Value}(hr:Rep ren (env U σ w ω μ) (.cell id off) v u)(l':Loc) :
  ∃ ω',Rel ren we ωe U O (σ.setB id (.live false (cs.set off v.dem))) a w ω' μ∧Rep ren (env U (σ.setB id (.live false (cs.set off v.dem))) w ω' μ) l' v.tk u:=by
 have hlt:id<σ.b.length:=(Wi.1 hid).1
 have R1:=R.setCellV hid hv
 have hne:cs≠[]:=by rintro rfl; simp at hv
 obtain ⟨e0,arr,T,e1,e2,e3⟩:=R.live hid hne
 obtain ⟨F1,_⟩:=R.write hid hne (cs':=cs.set off v.dem) (by simp) e1 rfl e1 (fun k _=>rfl) (Kept.refl _ w)
 have hbl:yr (σ.b.set id (.live false (cs.set off v.dem)))=yr σ.b:=by
  funext k
  unfold yr
  by_cases hk:k=id
  ·subst hk; rw [WF hlt,hid]; simp
  ·rw [WE (fun e=>hk e.symm)]
 have plain:(∀ sz es,v≠.gs sz es)→(∀ sz es,v≠.fr sz es)→∃ ω',Rel ren we ωe U O (σ.setB id (.live false (cs.set off v.dem))) a w ω' μ∧Rep ren (env U (σ.setB id (.live false (cs.set off v.dem))) w ω' μ) l' v.tk u:=by
  intro hne hnf
  refine ⟨ω,R1,?_⟩
  have e:v.tk=v.dem:=by cases v <;> first | rfl | exact absurd rfl (hne _ _) | exact absurd rfl (hnf _ _)
  rw [e]
  refine Rep.frame0 F1 (fun l=>hr.dem R.hU l) (fun x xs=>?_) _
  cases v with
  | tup vs=>cases vs <;> simp [V.dem]
  | _=>simp [V.dem]
 cases v with
 | gs sz es=>
  cases hr with
  | pure h=>exact ⟨ω,R1,.pure h⟩
  | gs _ _ β c arr' T' f hω hb hc hn hsz hcell h1 h=>
   have hβ:ω β=.gs (.cell id off) (es.length*sz):=hω
   have F:=zk8 U (σ.setB id (.live false (cs.set off (V.gs sz es).dem))) w μ hβ l'
   have R2:=R1.relabel (l:=.cell id off) hβ l' (fun t v hj hl=>by cases hl) (fun id' j p cs' v' hb' hc' hl u' hr'=>by
    cases hl
    simp only [St.setB] at hb'
    rw [WF hlt] at hb'
    cases hb'
    rw [WF (Wi.1 hv).1] at hc'
    cases hc'
    refine Rep.frame0 F (fun l=>?_) (by simp [V.dem]) _
    cases hr' with
    | pure h=>exact .pure h)
   exact ⟨_,R2,.gs sz es β c arr' T' f (xv _ _ _) hb hc hn hsz hcell h1 (fun i v hv=>((h i v hv).mono F1.st).mono F.st)⟩
 | fr sz es=>
  cases hr with
  | pure h=>cases h
  | fr0 _ A=>exact ⟨ω,R1,.fr0 _ _⟩
  | fr _ _ β c arr' T' f hω hb hc hn hsz hcell h1 h=>
   have hβ:ω β=.gs (.cell id off) 0:=hω
   have F:=zk8 U (σ.setB id (.live false (cs.set off (V.fr sz es).dem))) w μ hβ l'
   have R2:=R1.relabel (l:=.cell id off) hβ l' (fun t v hj hl=>by cases hl) (fun id' j p cs' v' hb' hc' hl u' hr'=>by
    cases hl
    simp only [St.setB] at hb'
    rw [WF hlt] at hb'
    cases hb'
    rw [WF (Wi.1 hv).1] at hc'
    cases hc'
    refine Rep.frame0 F (fun l=>?_) (by simp [V.dem]) _
    exact .junk)
   exact ⟨_,R2,.fr sz es β c arr' T' f (xv _ _ _) hb hc hn hsz hcell h1 (fun i v hv=>((h i v hv).mono F1.st).mono F.st)⟩
 | _=>exact plain (by simp) (by simp)
theorem zFT{vs:List V}:∀ {cs:List V},cs.mapM V.plain=some vs→vs.length=cs.length∧∀ (j:Nat) (c:V),vs[j]?=some c→∃ c0,cs[j]?=some c0∧c0.plain=some c:=by
 intro cs h
 refine ⟨zb9 h,fun j c hc=>?_⟩
 have hlt:j<cs.length:=by rw [← zb9 h]; exact (Wi.1 hc).1
 obtain ⟨b,hb,hb'⟩:=zhk h j _ (Wc hlt)
 rw [hc] at hb; cases hb
 exact ⟨_,Wc hlt,hb'⟩
theorem zPh{vs:List V}:∀ {cs:List V},cs.mapM V.refd=some vs→vs.length=cs.length∧∀ (j:Nat) (c:V),vs[j]?=some c→∃ c0,cs[j]?=some c0∧c0.refd=some c:=by
 intro cs h
 refine ⟨zb9 h,fun j c hc=>?_⟩
 have hlt:j<cs.length:=by rw [← zb9 h]; exact (Wi.1 hc).1
 obtain ⟨b,hb,hb'⟩:=zhk h j _ (Wc hlt)
 rw [hc] at hb; cases hb
 exact ⟨_,Wc hlt,hb'⟩
theorem zPj(R:Rel ren we ωe U O σ a w ω μ){o:Oper}{t:TypeId}{x:Operand}(hop:o.op=.load t x){b:Bool}{n:Nat}(h1:zap P t=some b)(h2:xx P t=some n){s:Src}{t1:TypeId}(hs:yj P ren t1 x=some s){nb:Nat}{cb:CB}{take pin:Bool}{σ':St}(h:yd cb nb σ o.dst pin (.load b n s take)=some σ'):StepOk P ren we ωe U O a w o σ' nb μ:=by
 simp only [yd] at h
 split at h
 ·rename_i id off hg
  split at h
  ·rename_i p cs hb
   rcases R.bs id p cs hb with h0 | hbs
   ·subst h0
    split at h
    ·rename_i hagg
     subst hagg
     split at h
     ·rename_i hfit
      obtain rfl:n=0:=by simp at hfit; omega
      have hr:=R.opnd hs
      rw [hg] at hr
      obtain ⟨L,hL,ex⟩:=hr.ptr_inv
      have run:=zkq (P:=P) (a:=a) (w:=w) h1 h2 [] (by simp) (by simp) (fun j u hu=>by simp at hu) hop ex
      refine .value run ⟨ω,μ,?_,fun _ _=>rfl⟩
      split at h
      ·cases h; exact R.put _ (fun i _=>.pure (.agg _ [] (by simp) (by simp) (by simp)))
      ·split at h
       ·simp at h; subst h; exact R.put _ (fun i _=>.st _ [] (by simp) (by simp) (by simp))
       ·simp at h; subst h; exact R.put _ (fun i _=>.pure (.agg _ [] (by simp) (by simp) (by simp)))
     ·cases h
    ·simp at h
   obtain ⟨e0,arr,T,e1,e2,e3⟩:=hbs
   split at h
   ·rename_i hagg
    subst hagg
    split at h
    ·rename_i hfit
     split at h
     ·rename_i hp
      subst hp
      cases h
      refine zqO R hop h1 h2 hs hg e1 (by omega) (by simp; omega) (fun j c hc=>?_)
      rw [Wn] at hc
      split at hc
      ·rw [Wp] at hc
       obtain ⟨u,g1,g2,g3,_⟩:=e3 _ c hc
       exact ⟨u,g1,g2,g3 rfl⟩
      ·cases hc
     split at h
     ·simp only [Wb,Wa,Wg] at h
      obtain ⟨vs,hvs,rfl⟩:=h
      obtain ⟨q1,q2⟩:=zPh hvs
      refine zLO R hop h1 h2 hs hg e1 (by omega) (by rw [q1]; simp; omega) (fun j c hc=>?_)
      obtain ⟨c0,hc0,hp0⟩:=q2 j c hc
      rw [Wn] at hc0
      split at hc0
      ·rw [Wp] at hc0
       obtain ⟨u,g1,g2,g3,g4⟩:=e3 _ c0 hc0
       exact ⟨u,g1,g2,g4.refd R.hU hp0⟩
      ·cases hc0
     ·simp only [Wb,Wa,Wg] at h
      obtain ⟨vs,hvs,rfl⟩:=h
      obtain ⟨q1,q2⟩:=zFT hvs
      refine zqO R hop h1 h2 hs hg e1 (by omega) (by rw [q1]; simp; omega) (fun j c hc=>?_)
      obtain ⟨c0,hc0,hp0⟩:=q2 j c hc
      rw [Wn] at hc0
      split at hc0
      ·rw [Wp] at hc0
       obtain ⟨u,g1,g2,g3,g4⟩:=e3 _ c0 hc0
       exact ⟨u,g1,g2,g4.plain R.hU hp0⟩
      ·cases hc0
    ·cases h
   ·rename_i hagg
    obtain rfl:b=false:=by simpa using hagg
    split at h
    ·rename_i v hv
     obtain ⟨u,g1,g2,g3,g4⟩:=e3 _ v hv
     split at h
     ·split at h
      ·cases h
      ·rename_i hp
       obtain rfl:p=false:=by simpa using hp
       cases h
       refine zkT R hop h1 h2 hs hg e1 g1 ?_
       cases hd:o.dst with
       | none=>
        obtain ⟨ω',R',_⟩:=R.takenCell hb hv g4 (.slot 0 0)
        exact ⟨ω',μ,R',fun _ _=>rfl⟩
       | some d=>
        obtain ⟨ω',R',hr'⟩:=R.takenCell hb hv g4 (.slot d 0)
        exact ⟨ω',μ,R'.put (some d) (fun i hi=>by cases hi; exact hr'),fun _ _=>rfl⟩
     ·cases h
      exact zkT R hop h1 h2 hs hg e1 g1 ⟨ω,μ,R.put _ (fun i _=>g4.dem R.hU _),fun _ _=>rfl⟩
    ·cases h
  ·rename_i cs hb
   obtain ⟨e0,arr,T,fr,e1,e2,e3⟩:=R.fs id cs hb
   split at h
   ·rename_i hagg
    subst hagg
    split at h
    ·cases h
     refine zqO R hop h1 h2 hs hg e1 (by omega) (by simp; omega) (fun j c hc=>?_)
     rw [Wn] at hc
     split at hc
     ·rw [Wp] at hc
      exact e3 _ c hc
     ·cases hc
    ·cases h
   ·rename_i hagg
    obtain rfl:b=false:=by simpa using hagg
    split at h
    ·rename_i v hv
     cases h
     obtain ⟨u,g1,g2,g3⟩:=e3 _ v hv
     exact zkT R hop h1 h2 hs hg e1 g1 ⟨ω,μ,R.put _ (fun i _=>.pure g3),fun _ _=>rfl⟩
    ·cases h
  ·cases h
 ·rename_i m cs hg
  split at h
  ·rename_i hagg
   split at h
   ·rename_i hn; cases h; exact zBe R hop h1 h2 hs hg (.inl ⟨hagg,hn,rfl⟩)
   ·cases h
  ·rename_i hagg
   split at h
   ·rename_i v hv; cases h; exact zBe R hop h1 h2 hs hg (.inr ⟨by simpa using hagg,hv⟩)
   ·cases h
 ·cases h
end
section
variable {ren:Rn} {we:World} {ωe:Nat→Ow} {U:Nat→Nat→Prop} {O:Nat→Prop} {σ:St} {a:Act} {w:World} {ω:Nat→Ow} {μ:Nat→Nat} {P:Program} {nb:Nat}
theorem zpT(w:World)(g:Nat)(cs:Array Value):Kept (fun k=>k=g) w (w.setRow g cs):=
 ⟨rfl,rfl,rfl,by simp,fun k _ hn=>setRow_other w g k cs hn⟩
theorem zoJ{Wr:Nat→Nat→Prop}{cs:List V}{us:List Value}(h:CellsP ren w Wr cs us):∀ u∈us,u.oneCell'=true:=by
 intro u hu
 obtain ⟨i,hi,rfl⟩:=W7 hu
 have hlt:i<cs.length:=by rw [h.1]; exact hi
 obtain ⟨x,hx,h1,_⟩:=h.2 i _ (Wc hlt)
 rw [Wc hi] at hx; cases hx; exact h1
theorem zkP{t:TypeId}{n:Nat}(h2:xx P t=some n){o:Oper}{x y:Operand}(hop:o.op=.store t x y){k q:Nat}(hx:a.eval x=.pointer (some ⟨k,q,none⟩))(hn:(a.eval y).cells.size=n){arr:Array Value}{T:TypeId}(hb:w.heap[k]?=some (.cells arr T (0,0)))(hfit:q+n≤arr.size)(h1:∀ v∈(a.eval y).cells.toList,v.oneCell'=true) :
  (execOp a.eval o).run P w=.ok .skip (w.setRow k (arr.toList.take q++(a.eval y).cells.toList++arr.toList.drop (q+(a.eval y).cells.toList.length)).toArray):=by
 have hst:=run_storeCells_at P k q T (a.eval y).cells.toList 0 arr w hb (by simp; omega) h1
 simp only [W1] at hst
 simp only [execOp,hop,hx,Instr.storeAt,Instr.sureAddr,Sem.run_bind,Sem.run_pure,WD,storeVar,zab h2,hn,ne_eq,not_true_eq_false,if_false,hst]
theorem Rel.writeCellsG(R:Rel ren we ωe U O σ a w ω μ){id:Nat}{p:Bool}{cs:List V}(hid:σ.b[id]?=some (.live p cs))(hne:cs≠[]){arr:Array Value}{T:TypeId}(ha:w.heap[μ id]?=some (.cells arr T (0,0))){new:List V}{us:List Value}(hul:new.length=us.length)(hn:∀ (j:Nat) (c:V),new[j]?=some c→∃ u,us[j]?=some u∧u.oneCell'=true∧(RepP ren w (wr U ω) c u∨(p=false∧(OwnAt (env U σ w ω μ) c u∨∀ (E:En) (l:Loc),Rep ren E l c u)))){off:Nat}(hfit:off+new.length≤cs.length) :
  Rel ren we ωe U O (σ.setB id (.live p (xd cs off new))) a (w.setRow (μ id) (arr.toList.take off++us++arr.toList.drop (off+us.length)).toArray) ω μ:=by
 obtain ⟨e0,arr0,T0,e1,e2,e3⟩:=R.live hid hne
 rw [ha] at e1; cases e1
 have hsz:(arr.toList.take off++us++arr.toList.drop (off+us.length)).toArray.size=arr.size:=by simp; omega
 obtain ⟨F,key⟩:=R.write hid hne (znw hfit) ha hsz (setRow_heap w _ arr _ T _ ha) (fun k hk=>setRow_other w _ k _ hk) (zpT w _ _)
 refine key (fun j c hc=>?_)
 unfold xd at hc
 rw [zij hfit] at hc
 have hget:(arr.toList.take off++us++arr.toList.drop (off+us.length)).toArray[j]?=if off≤j∧j<off+us.length then us[j-off]? else arr.toList[j]?:=by
  rw [W6,zij (by simp; omega)]
 rw [hget]
 split at hc
 ·rename_i hj
  rw [if_pos (by omega)]
  obtain ⟨u,g1,g2,g3⟩:=hn _ c hc
  rcases g3 with g3 | ⟨hp,g3 | g3⟩
  ·exact ⟨u,g1,g2,fun _=>g3.mono F.st,.pure (g3.mono F.st)⟩
  ·exact ⟨u,g1,g2,fun h=>(by rw [hp] at h; cases h),(g3.frame F).rep _⟩
  ·exact ⟨u,g1,g2,fun h=>(by rw [hp] at h; cases h),g3 _ _⟩
 ·rename_i hj
  rw [if_neg (by omega)]
  obtain ⟨u,g1,g2,g3,g4⟩:=e3 j c hc
  refine ⟨u,by simpa using g1,g2,fun hp=>(g3 hp).mono F.st,g4.frame F (fun l β h _ e=>⟨e,setRow_other w _ β _ ?_⟩)⟩
  have e:ω β=.gs l h:=e
  rintro rfl; rw [e0] at e; cases e
theorem Rel.writeCells(R:Rel ren we ωe U O σ a w ω μ){id:Nat}{p:Bool}{cs:List V}(hid:σ.b[id]?=some (.live p cs))(hne:cs≠[]){arr:Array Value}{T:TypeId}(ha:w.heap[μ id]?=some (.cells arr T (0,0))){new:List V}{us:List Value}(hn:CellsP ren w (wr U ω) new us){off:Nat}(hfit:off+new.length≤cs.length) :
  Rel ren we ωe U O (σ.setB id (.live p (xd cs off new))) a (w.setRow (μ id) (arr.toList.take off++us++arr.toList.drop (off+us.length)).toArray) ω μ:=
 R.writeCellsG hid hne ha hn.1 (fun j c hc=>by obtain ⟨u,g1,g2,g3⟩:=hn.2 j c hc; exact ⟨u,g1,g2,.inl g3⟩) hfit
theorem zkO{id:Nat}{x:B}(h:σ.b[id]?=some x):σ.setB id x=σ:=by
 obtain ⟨hlt,rfl⟩:=Wi.1 h
 cases σ
 simp [St.setB]
theorem zmy{t:TypeId}(h2:xx P t=some 0){o:Oper}{x y:Operand}(hop:o.op=.store t x y){k q:Nat}(hx:a.eval x=.pointer (some ⟨k,q,none⟩))(hn:(a.eval y).cells.size=0):(execOp a.eval o).run P w=.ok .skip w:=by
 have e:(a.eval y).cells.toList=[]:=by
  have:(a.eval y).cells.toList.length=0:=by simpa using hn
  exact WZ.1 this
 simp only [execOp,hop,hx,Instr.storeAt,Instr.sureAddr,Sem.run_bind,Sem.run_pure,WD,storeVar,zab h2,hn,ne_eq,not_true_eq_false,if_false,e,storeCells]
theorem zT7{v:V}(h1:∀ vs,v≠.tup vs)(h2:∀ p cs,v≠.bx p cs):v.tk=v:=by
 cases v <;> first | rfl | exact absurd rfl (h1 _) | exact absurd rfl (h2 _ _)
theorem Rep.one{E:En}{l:Loc}{v:V}{u:Value}(h:Rep ren E l v u)(h0:v≠.junk)(h1:∀ vs,v≠.tup vs)(h2:∀ cs,v≠.agg cs)(h3:∀ cs,v≠.st cs):u.oneCell'=true∧u.cells=#[u]:=by
 cases h with
 | pure h=>
  cases h with
  | sc _ h=>refine ⟨h,?_⟩; cases u <;> first | rfl | exact absurd h (by simp [Value.oneCell'])
  | agg cs _ _ _ _=>exact absurd rfl (h2 cs)
  | sl _ _ _ _ _ _ _ _ _ _ _ _ _=>exact ⟨rfl,rfl⟩
  | ful _ _ _ _ _ _ _ _ _ _ _ _=>exact ⟨rfl,rfl⟩
  | fn _ _ _=>exact ⟨rfl,rfl⟩
 | gs _ _ _ _ _ _ _ _ _ _ _ _ _ _ _=>exact ⟨rfl,rfl⟩
 | fr _ _ _ _ _ _ _ _ _ _ _ _ _ _ _=>exact ⟨rfl,rfl⟩
 | fr0 _ _=>exact ⟨rfl,rfl⟩
 | ub b=>exact ⟨rfl,rfl⟩
 | mp _ _ _=>exact ⟨rfl,rfl⟩
 | bx _ _ _ _ _ _ _ _ _ _ _ _=>exact ⟨rfl,rfl⟩
 | own _ _ _ _ _ _ _ _ _ _ _=>exact ⟨rfl,rfl⟩
 | cut _ _ _ _ _ _ _ _ _ _ _ _=>exact ⟨rfl,rfl⟩
 | ptr _ _ _ _=>exact ⟨rfl,rfl⟩
 | fp _ _ _ _ _ _ _ _ _=>exact ⟨rfl,rfl⟩
 | fn _ _ _ _ _ _ _=>exact ⟨rfl,rfl⟩
 | tup vs _ _ _=>exact absurd rfl (h1 vs)
 | st cs _ _ _ _=>exact absurd rfl (h3 cs)
 | junk=>exact absurd rfl h0
theorem zOx(R:Rel ren we ωe U O σ a w ω μ){o:Oper}{t:TypeId}{x y:Operand}(hop:o.op=.store t x y){n:Nat}(h2:xx P t=some n){sx sy:Src}{t1 t2:TypeId}(hs:yj P ren t1 x=some sx)(hs2:yj P ren t2 y=some sy){nb:Nat}{cb:CB}{pin:Bool}{σ':St}(h:yd cb nb σ o.dst pin (.store n sx sy)=some σ'):StepOk P ren we ωe U O a w o σ' nb μ:=by
 simp only [yd] at h
 split at h
 ·cases h
 ·rename_i hdst
  have hdst:o.dst=none:=by simpa using hdst
  split at h
  ·rename_i id off hg
   have hr:=R.opnd hs
   rw [hg] at hr
   obtain ⟨L,hL,ex⟩:=hr.ptr_inv
   split at h
   ·rename_i cs hb
    simp only [Wb,Wa] at h
    obtain ⟨v,hv,h⟩:=h
    split at h
    ·rename_i hc
     cases h
     have hrv:=(R.opnd hs2).plain R.hU hv
     have hcp:=hrv.cellsP
     have hsz:(a.eval y).cells.size=n:=by have:=hcp.1; simp at this; omega
     by_cases hne:cs=[]
     ·have h0:=hne
      subst h0
      obtain ⟨c1,c2⟩:=hc
      obtain rfl:n=0:=by simp at c2; omega
      have hvc:v.cells=[]:=WZ.1 c1
      refine .skip (zmy h2 hop ex hsz) ⟨ω,μ,?_,fun _ _=>rfl⟩
      rw [hdst,hvc,show xd ([]:List V) off []=[] by simp [xd],zkO hb]
      exact R
     obtain ⟨e0,arr,T,e1,e2,e3⟩:=R.live hb hne
     refine .skip (zkP h2 hop ex hsz e1 (by omega) (zoJ hcp)) ⟨ω,μ,?_,fun _ _=>rfl⟩
     rw [hdst]
     exact R.writeCells hb hne e1 hcp (by omega)
    ·cases h
   ·rename_i cs hb
    split at h
    ·rename_i us hgv
     split at h
     ·rename_i hc
      cases h
      have hrv:=R.opnd hs2
      rw [hgv] at hrv
      have hcp:=hrv.agg_eq.cellsP
      have hsz:(a.eval y).cells.size=n:=by have:=hcp.1; simp [V.cells] at this; omega
      by_cases hne:cs=[]
      ·have h0:=hne
       subst h0
       obtain ⟨c1,c2⟩:=hc
       obtain rfl:n=0:=by simp at c2; omega
       obtain rfl:us=[]:=WZ.1 c1
       refine .skip (zmy h2 hop ex hsz) ⟨ω,μ,?_,fun _ _=>rfl⟩
       rw [hdst,show xd ([]:List V) off []=[] by simp [xd],zkO hb]
       exact R
      obtain ⟨e0,arr,T,e1,e2,e3⟩:=R.live hb hne
      refine .skip (zkP h2 hop ex hsz e1 (by omega) (zoJ hcp)) ⟨ω,μ,?_,fun _ _=>rfl⟩
      rw [hdst]
      exact R.writeCells hb hne e1 hcp (by show off+us.length≤_; omega)
     ·cases h
    ·rename_i us hgv
     split at h
     ·rename_i hc
      cases h
      have hrv:=R.opnd hs2
      rw [hgv] at hrv
      obtain ⟨vs,eu,hvl,hcell,hone⟩:=hrv.st_inv
      have hsz:(a.eval y).cells.size=n:=by rw [eu]; simp [Value.cells]; omega
      by_cases hne:cs=[]
      ·have h0:=hne
       subst h0
       obtain ⟨c1,c2⟩:=hc
       obtain rfl:n=0:=by simp at c2; omega
       obtain rfl:us=[]:=WZ.1 c1
       refine .skip (zmy h2 hop ex hsz) ⟨ω,μ,?_,fun _ _=>rfl⟩
       rw [hdst,show xd ([]:List V) off []=[] by simp [xd],zkO hb]
       exact R
      obtain ⟨e0,arr,T,e1,e2,e3⟩:=R.live hb hne
      have ecl:(a.eval y).cells.toList=vs:=by rw [eu]; simp [Value.cells]
      refine .skip (zkP h2 hop ex hsz e1 (by omega) (by rw [ecl]; exact hone)) ⟨ω,μ,?_,fun _ _=>rfl⟩
      rw [hdst,ecl]
      refine R.writeCellsG hb hne e1 hvl (fun j c hj=>?_) (by omega)
      have hlt:j<vs.length:=by rw [← hvl]; exact (Wi.1 hj).1
      refine ⟨vs[j],Wc hlt,hone _ (W2 hlt),?_⟩
      rcases hcell j c _ hj (Wc hlt) with q | q
      ·exact .inl q
      ·exact .inr ⟨rfl,.inl q⟩
     ·cases h
    ·cases h
    ·cases h
    ·cases h
    ·rename_i n1 n0 n2 n3 n5
     split at h
     ·rename_i hc
      obtain ⟨hn1,hlt⟩:=hc
      cases h
      have hne:cs≠[]:=by rintro rfl; simp at hlt
      obtain ⟨e0,arr,T,e1,e2,e3⟩:=R.live hb hne
      obtain ⟨c1,c2⟩:=R.opndC hs2
      obtain ⟨ω',F,R',hr',hw⟩:=R.taken sy (R.opnd hs2) c1 c2 (.cell id off)
      have htk:(sy.get σ).tk=sy.get σ:=zT7 (fun vs e=>n2 vs e) (fun p cs e=>n3 p cs e)
      rw [htk] at hr'
      obtain ⟨one,hcl⟩:=(R.opnd hs2).one (fun e=>n5 e) (fun vs e=>n2 vs e) (fun cs e=>n1 cs e) (fun cs e=>n0 cs e)
      have hb':(σ.demote sy).b[id]?=some (.live false cs):=by cases sy <;> exact hb
      refine .skip (zkP h2 hop ex (by rw [hcl]; simp [hn1]) e1 (by omega) (by rw [hcl]; simpa using one)) ?_
      rw [hdst,hcl]
      have hsz:(arr.toList.take off++#[a.eval y].toList++arr.toList.drop (off+#[a.eval y].toList.length)).toArray.size=arr.size:=by simp; omega
      obtain ⟨e0',arr',T',e1',e2',e3'⟩:=R'.live hb' hne
      rw [e1] at e1'; cases e1'
      obtain ⟨F2,key⟩:=R'.write hb' hne (cs':=cs.set off (sy.get σ)) (by simp) e1 hsz (setRow_heap w _ arr _ T _ e1) (fun k hk=>setRow_other w _ k _ hk) (zpT w _ _)
      refine ⟨ω',μ,key (fun j c hc=>?_),fun _ _=>rfl⟩
      have hget:(arr.toList.take off++#[a.eval y].toList++arr.toList.drop (off+#[a.eval y].toList.length)).toArray[j]?=if j=off then some (a.eval y) else arr.toList[j]?:=by
       rw [W6,zij (by simp; omega)]
       by_cases hj:j=off
       ·subst hj; simp
       ·rw [if_neg (by simp; omega),if_neg hj]
      rw [hget]
      have en:env U (σ.demote sy) w ω' μ=env U σ w ω' μ:=by cases sy <;> rfl
      by_cases hj:j=off
      ·subst hj
       rw [WF hlt] at hc
       cases hc
       rw [if_pos rfl]
       refine ⟨_,rfl,one,by simp,?_⟩
       rw [en] at F2
       refine hr'.frame F2 (fun l β h _ e=>⟨e,setRow_other w _ β _ ?_⟩)
       have e:ω' β=.gs l h:=e
       rintro rfl; rw [e0'] at e; cases e
      ·rw [WE (fun e=>hj e.symm)] at hc
       rw [if_neg hj]
       obtain ⟨u,g1,g2,g3,g4⟩:=e3' j c hc
       refine ⟨u,by simpa using g1,g2,by simp,g4.frame F2 (fun l β h _ e=>⟨e,setRow_other w _ β _ ?_⟩)⟩
       have e:ω' β=.gs l h:=e
       rintro rfl; rw [e0'] at e; cases e
     ·cases h
   ·cases h
  ·cases h
theorem zMF(R:Rel ren we ωe U O σ a w ω μ){o:Oper}{t:TypeId}{x y:Operand}(hop:o.op=.store t x y){n:Nat}(h2:xx P t=some n){sx sy:Src}{t1 t2:TypeId}(hs:yj P ren t1 x=some sx)(hs2:yj P ren t2 y=some sy){nb:Nat}{cb:CB}{pin:Bool}{xs:List Nat}{σ':St}(h:yd cb nb σ o.dst pin (.storeF n sx sy xs)=some σ'):StepOk P ren we ωe U O a w o σ' nb μ:=by
 simp only [yd] at h
 split at h
 ·cases h
 rename_i hd
 split at h
 rotate_left
 ·cases h
 rename_i id off hg
 split at h
 rotate_left
 ·cases h
 rename_i cs hb
 split at h
 rotate_left
 ·cases h
 rename_i us hgs
 split at h
 rotate_left
 ·cases h
 rename_i hc
 cases h
 have hdst:o.dst=none:=by cases hod:o.dst with | none=>rfl | some d=>rw [hod] at hd; exact absurd rfl hd
 have hr:=R.opnd hs
 rw [hg] at hr
 obtain ⟨L,hL,ex⟩:=hr.ptr_inv
 have hrv:=R.opnd hs2
 rw [hgs] at hrv
 obtain ⟨vs,eu,hvl,hcell,hone⟩:=hrv.st_inv
 have hsz:(a.eval y).cells.size=n:=by rw [eu]; simp [Value.cells]; omega
 by_cases hne:cs=[]
 ·have h0:=hne
  subst h0
  obtain ⟨c1,c2⟩:=hc
  obtain rfl:n=0:=by simp at c2; omega
  obtain rfl:us=[]:=WZ.1 c1
  refine .skip (zmy h2 hop ex hsz) ⟨ω,μ,?_,fun _ _=>rfl⟩
  rw [hdst,show xd ([]:List V) off (frz xs [])=[] by simp [xd,frz],zkO hb]
  exact R
 obtain ⟨e0,arr,T,e1,e2,e3⟩:=R.live hb hne
 have ecl:(a.eval y).cells.toList=vs:=by rw [eu]; simp [Value.cells]
 have hfl:(frz xs us).length=us.length:=by simp [frz]
 refine .skip (zkP h2 hop ex hsz e1 (by omega) (by rw [ecl]; exact hone)) ⟨ω,μ,?_,fun _ _=>rfl⟩
 rw [hdst,ecl]
 refine R.writeCellsG (off:=off) hb hne e1 (by rw [hfl]; exact hvl) (fun j c hj=>?_) (by rw [hfl]; omega)
 obtain ⟨c0,h0,e⟩:=zNh hj
 have hlt:j<vs.length:=by rw [← hvl]; exact (Wi.1 h0).1
 refine ⟨vs[j],Wc hlt,hone _ (W2 hlt),?_⟩
 rcases hcell j c0 _ h0 (Wc hlt) with q | q
 ·rcases e with rfl | ⟨rfl,_⟩
  ·exact .inl q
  ·rcases zMj q with e | e
   ·rw [e]; exact .inl q
   ·exact .inr ⟨rfl,.inr e⟩
 ·rcases e with rfl | ⟨rfl,_⟩
  ·exact .inr ⟨rfl,.inl q⟩
  ·have q2:=q
   obtain ⟨id',off',len',sz',c',L',A',e1',_⟩:=q2
   subst e1'
   exact .inr ⟨rfl,.inl (by simpa [zMc] using q)⟩
theorem zOQ(R:Rel ren we ωe U O σ a w ω μ){o:Oper}{t e:TypeId}{x:Operand}(hop:o.op=.call { callee:=.builtin .clear,args:=#[x],argTypes:=#[t] })(ht:P.underlying t=some (.slice e)){sz:Nat}(hsz:xx P e=some sz)(hpos:0<sz){z:List V}(hz:zgv P e=some z)(hzl:z.length=sz){sx:Src}{t1:TypeId}(h1:yj P ren t1 x=some sx)
  {nb:Nat} {cb:CB} {pin:Bool} {σ':St} (h:yd cb nb σ o.dst pin (.clear sz (z.map V.dem) sx)=some σ'):StepOk P ren we ωe U O a w o σ' nb μ:=by
 obtain ⟨i,zv,hi,hzv,hcz⟩:=zhc (ren:=ren) (w:=w) (Wr:=wr U ω) hz
 simp only [yd] at h
 split at h
 ·rename_i id off len sz1 hg
  split at h
  ·rename_i cs hb
   split at h
   ·rename_i hs
    subst hs
    cases h
    have hr:=R.opnd h1
    rw [hg] at hr
    obtain ⟨c,L,A,eu,hL,hl,hc,hA⟩:=hr.own_inv
    have hL':yr σ.b id=some L:=hL
    have:L=cs.length:=by simp [yr,hb] at hL'; exact hL'.symm
    subst this
    rcases Nat.eq_zero_or_pos len with q | q
    ·subst q
     have run:(execOp a.eval o).run P w=.ok (.value (.tuple #[])) w:=by
      cases A <;> simp [execOp,hop,resolve,invoke,builtin,Builtin.clear_,run_underlying ht,eu]
     refine .value run ⟨ω,μ,?_,fun _ _=>rfl⟩
     rw [show xd cs off (We 0 (z.map V.dem)).flatten=cs by simp [xd],zkO hb]
     exact R.put _ (fun i _=>.tup [] [] rfl (by simp))
    ·rcases hA with ⟨rfl,_⟩ | ⟨h0,_⟩
     ·have hlen:sz1≤len*sz1:=Nat.le_mul_of_pos_left sz1 q
      have hne:cs≠[]:=by rintro rfl; simp at hl; omega
      obtain ⟨e0,arr,T,e1,e2,e3⟩:=R.live hb hne
      have hd:=zkj hcz
      have hzs:zv.cells.size=sz1:=by have:=hcz.1; simp at this; omega
      have hcells:=zl3 hd len (len*sz1) (by simp [hzl]) (by simp [hzl]; exact hpos)
      have hfl:(We len (z.map V.dem)).flatten.length=len*sz1:=by
       rw [yV (sz:=sz1) (fun x hx=>by rw [W0 hx]; simp [hzl])]; simp
      have hnew:CellsP ren w (wr U ω) (We len (z.map V.dem)).flatten (Builtin.zeroCells zv.cells len).toList:=by
       refine ⟨by rw [hfl]; simp [Builtin.zeroCells,hzs],fun j v hv=>?_⟩
       obtain ⟨u,g1,g2,g3⟩:=hcells j v hv
       refine ⟨u,?_,g2,g3⟩
       rw [W5]
       simpa [Builtin.zeroCells,hzs] using g1
      have hzl2:(Builtin.zeroCells zv.cells len).toList.length=len*sz1:=by simp [Builtin.zeroCells,hzs]
      have hst:=run_storeCells_at P (μ id) off T (Builtin.zeroCells zv.cells len).toList 0 arr w e1 (by omega) (zoJ hnew)
      simp only [W1] at hst
      have hst':(storeCells (⟨(env U σ w ω μ).μ id,off,none⟩:Addr) (Builtin.zeroCells zv.cells len).toList).run P w=_:=hst
      obtain ⟨m,rfl⟩:∃ m,len=m+1:=⟨len-1,by omega⟩
      have run:(execOp a.eval o).run P w=.ok (.value (.tuple #[])) (w.setRow (μ id) (arr.toList.take off++(Builtin.zeroCells zv.cells (m+1)).toList++arr.toList.drop (off+(Builtin.zeroCells zv.cells (m+1)).toList.length)).toArray):=by
       simp only [execOp,hop,resolve,invoke,builtin,Builtin.clear_,List.map_toArray,List.map_cons,List.map_nil,eu,Sem.run_bind,Sem.run_pure,WD,run_underlying ht,zeroValue,typeInfo,hi,hzv]
       simp [run_underlying ht,zeroValue,typeInfo,hi,hzv,hst']
      refine .value run ⟨ω,μ,?_,fun _ _=>rfl⟩
      exact (R.writeCells hb hne e1 hnew (by rw [hfl]; omega)).put _ (fun i _=>.tup [] [] rfl (by simp))
     ·omega
   ·cases h
  ·cases h
 ·cases h
theorem zQS(R:Rel ren we ωe U O σ a w ω μ){o:Oper}{t u e:TypeId}{d s:Operand}(hop:o.op=.call { callee:=.builtin .copy,args:=#[d,s],argTypes:=#[t,u] })(ht:P.underlying t=some (.slice e)){sz:Nat}(hsz:xx P e=some sz)(hpos:0<sz){sd ss:Src}{t1 t2:TypeId}(h1:yj P ren t1 d=some sd)(h2:yj P ren t2 s=some ss)
  {nb:Nat} {cb:CB} {pin:Bool} {σ':St} (h:yd cb nb σ o.dst pin (.copy sz sd ss)=some σ'):StepOk P ren we ωe U O a w o σ' nb μ:=by
 simp only [yd] at h
 split at h
 ·rename_i id off len sz1 sz2 es hg hv
  split at h
  ·rename_i cs hb
   split at h
   ·rename_i hs
    obtain ⟨rfl,rfl⟩:=hs
    cases h
    have hr:=R.opnd h1
    rw [hg] at hr
    obtain ⟨c,L,A,eu,hL,hl,hc,hA⟩:=hr.own_inv
    have hL':yr σ.b id=some L:=hL
    have:L=cs.length:=by simp [yr,hb] at hL'; exact hL'.symm
    subst this
    obtain ⟨A2,c2,f,k,q,eu2,hc2,hsz2,hA2,hcell⟩:=R.view (R.opnd h2) hv
    have hmin:Nat.min es.length len=min es.length len:=rfl
    generalize hmm:min es.length len=m at *
    have hml:m≤es.length:=by omega
    have hml2:m≤len:=by omega
    have hmle:m*sz2≤len*sz2:=WI sz2 hml2
    have hflat:(es.take m).flatten.length=m*sz2:=by
     rw [yV (sz:=sz2) (fun x hx=>hsz2 x (List.mem_of_mem_take hx)),List.length_take,Nat.min_eq_left hml]
    have hnew:CellsP ren w (wr U ω) (es.take m).flatten ((Wy (m*sz2)).map f):=by
     refine ⟨by simp [hflat],fun i v hv=>?_⟩
     have hi:i<m*sz2:=by rw [← hflat]; exact (Wi.1 hv).1
     rw [zyK hsz2,Wn,if_pos hi] at hv
     obtain ⟨g1,g2,g3⟩:=hcell i v hv
     exact ⟨f i,by simp [hi],g2,g3⟩
    by_cases hne:cs=[]
    ·have h0:=hne
     subst h0
     obtain rfl:len=0:=by
      rcases Nat.eq_zero_or_pos len with q | q
      ·exact q
      ·have:=WI sz2 q
       simp at hl; omega
     obtain rfl:m=0:=by omega
     have hf:(Builtin.firstCells sz2 0 (.slice A2 es.length c2)).run P w=.ok #[] w:=by
      cases A2 <;> simp [Builtin.firstCells,loadCells,loadCellsFrom]
     have run:(execOp a.eval o).run P w=.ok (.value (.int .i64 ((0:Nat):Int))) w:=by
      cases A with
      | none=>simp [execOp,hop,resolve,invoke,builtin,Builtin.copy_,run_underlying ht,eu,eu2,Builtin.lenOf,hmin,zab hsz,hf,goInt]
      | some ad=>simp [execOp,hop,resolve,invoke,builtin,Builtin.copy_,run_underlying ht,eu,eu2,Builtin.lenOf,hmin,zab hsz,hf,goInt,storeCells]
     refine .value run ⟨ω,μ,?_,fun _ _=>rfl⟩
     rw [show xd ([]:List V) off (es.take 0).flatten=[] by simp [xd],zkO hb]
     exact R.put _ (fun i _=>.pure (.sc _ rfl))
    obtain ⟨e0,arr,T,e1,e2,e3⟩:=R.live hb hne
    have hload:m≠0→∃ ad,A2=some ad∧(loadCells ad (m*sz2)).run P w=.ok ((Wy (m*sz2)).map f).toArray w:=by
     intro hm0
     have hne:es≠[]:=by rintro rfl; simp at hml; omega
     refine ⟨_,hA2 hne,run_loadCells w _ _ f (fun j hj=>?_)⟩
     rw [zc6]
     have hlt:j<es.flatten.length:=by
      rw [yV hsz2]
      have:=WI sz2 hml
      omega
     exact (hcell j _ (Wc hlt)).1
    have run:(execOp a.eval o).run P w=.ok (.value (.int .i64 (m:Int))) (w.setRow (μ id) (arr.toList.take off++(Wy (m*sz2)).map f++arr.toList.drop (off+((Wy (m*sz2)).map f).length)).toArray):=by
     by_cases hm0:m=0
     ·subst hm0
      have hw:w.setRow (μ id) (arr.toList.take off++(Wy (0*sz2)).map f++arr.toList.drop (off+((Wy (0*sz2)).map f).length)).toArray=w:=by
       simp only [Nat.zero_mul,List.range_zero,List.map_nil,List.append_nil,List.length_nil,W1,List.take_append_drop,Array.toArray_toList]
       exact setRow_self w _ arr T _ e1
      rw [hw]
      have hf:(Builtin.firstCells sz2 0 (.slice A2 es.length c2)).run P w=.ok #[] w:=by
       cases A2 <;> simp [Builtin.firstCells,loadCells,loadCellsFrom]
      cases A with
      | none=>simp [execOp,hop,resolve,invoke,builtin,Builtin.copy_,run_underlying ht,eu,eu2,Builtin.lenOf,hmin,zab hsz,hf,goInt]
      | some ad=>simp [execOp,hop,resolve,invoke,builtin,Builtin.copy_,run_underlying ht,eu,eu2,Builtin.lenOf,hmin,zab hsz,hf,goInt,storeCells]
     ·obtain ⟨ad,rfl,hl2⟩:=hload hm0
      rcases hA with ⟨rfl,_⟩ | ⟨hz,_⟩
      ·have hst:=run_storeCells_at P (μ id) off T ((Wy (m*sz2)).map f) 0 arr w e1 (by simp; omega) (zoJ hnew)
       simp only [W1] at hst
       have hst':(storeCells (⟨(env U σ w ω μ).μ id,off,none⟩:Addr) ((Wy (m*sz2)).map f)).run P w=_:=hst
       simp [execOp,hop,resolve,invoke,builtin,Builtin.copy_,run_underlying ht,eu,eu2,Builtin.lenOf,hmin,zab hsz,Builtin.firstCells,hl2,hst',goInt]
      ·omega
    refine .value run ⟨ω,μ,?_,fun _ _=>rfl⟩
    exact (R.writeCells hb hne e1 hnew (by rw [hflat]; omega)).put _ (fun i _=>.pure (.sc _ rfl))
   ·cases h
  ·cases h
 ·cases h
end
end Go.Proofs.YtgmhijonllockaaGreatDoor
