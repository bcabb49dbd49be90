/- Part 1 of the proof of BlockDecodes: an abstract machine over plain values, its soundness, and the functions of the program on plain values. -/
import Derived.WalkKit
import Derived.WalkSpells
import Derived.WalkLawsBesides
import Derived.Deep.QuietTactic
import Derived.BigQuiet
import Derived.Lib.Hide
import Derived.Deep.AppendLies
import Derived.Deep.Draws
import Derived.Deep.MidRow
import Derived.Orders
import Derived.Lib.BytesEntry
import Derived.Laws.Tables
import Derived.Laws.BytesString
namespace Go.Proofs.YtgmhijonllockaaGreatDoor
set_option maxRecDepth 100000
set_option linter.unusedVariables false
set_option linter.unusedSimpArgs false
open Option renaming bind_eq_some_iff->Wa,bind_eq_bind->Wb,map_eq_some_iff->Wj,pure_def->Wl
open List renaming getElem?_eq_getElem->Wc,replicate->We,getElem?_eq_some_iff->Wi,length_append->Wm,getElem?_take->Wn,getElem?_drop->Wp,getD_eq_getElem?_getD->Ws,getElem?_append_right->Wt,append_assoc->Wu,getElem?_append_left->Wv,length_take->Ww,getElem?_append->Wx,range->Wy
open Nat renaming eq_of_beq_eq_true->Wd,beq->Wf,le_refl->Wq,zero_add->WB
open Option.some renaming injEq->Wg
open Bool renaming and_eq_true->Wh
open _root_.Array renaming toList_zipIdx->Wz,foldl_toList->WA
open Int renaming ofNat->WC
section
open Go.RowKit
theorem zA1(a:Addr)(n:Nat):(a.add n).block=a.block:=by unfold Addr.add; split <;> rfl
theorem zRU(w:World)(p a:Addr)(v:Value)(h:p.block≠a.block):(w.setCell p v).cell? a=w.cell? a:=World.cell?_setCell_other w p a v (fun e=>h (by rw [e]))
theorem zSf(w:World)(o:Obj)(a:Addr)(h:a.block<w.heap.size):(w.alloc o).cell? a=w.cell? a:=World.cell?_alloc_lt w o a h
attribute [go_sem] zRU zSf zA1
structure Kept (O:Nat→Prop) (w w':World):Prop where
 os:w'.os=w.os
 tape:w'.tape=w.tape
 output:w'.output=w.output
 size:w.heap.size≤w'.heap.size
 block:∀ k,k<w.heap.size→¬ O k→w'.heap[k]?=w.heap[k]?
def No:Nat→Prop:=fun _=>False
theorem zn1{P:Prop}{k:Nat}(h:No k):P:=False.elim h
theorem Kept.refl(O:Nat→Prop)(w:World):Kept O w w:=⟨rfl,rfl,rfl,Wq _,fun _ _ _=>rfl⟩
theorem Kept.trans{O O':Nat→Prop}{a b c:World}(h:Kept O a b)(h':Kept O' b c)(hO:∀ k,k<a.heap.size→O' k→O k):Kept O a c:=
 ⟨h'.os.trans h.os,h'.tape.trans h.tape,h'.output.trans h.output,Nat.le_trans h.size h'.size,
  fun k hk hn=>(h'.block k (Nat.lt_of_lt_of_le hk h.size) (fun h=>hn (hO k hk h))).trans (h.block k hk hn)⟩
theorem Kept.mono{O O':Nat→Prop}{a b:World}(h:Kept O a b)(hO:∀ k,k<a.heap.size→O k→O' k):Kept O' a b:=
 ⟨h.os,h.tape,h.output,h.size,fun k hk hn=>h.block k hk (fun h=>hn (hO k hk h))⟩
theorem Kept.drew(O:Nat→Prop)(w:World):Kept O w w.drew:=⟨rfl,rfl,rfl,Wq _,fun _ _ _=>rfl⟩
theorem Kept.drewN(O:Nat→Prop)(w:World)(n:Nat):Kept O w (w.drewN n):=⟨rfl,rfl,rfl,Wq _,fun _ _ _=>rfl⟩
theorem Kept.alloc(O:Nat→Prop)(w:World)(o:Obj):Kept O w (w.alloc o):=⟨rfl,rfl,rfl,by simp,fun k hk _=>Below.heap_alloc w o k hk⟩
theorem Kept.setCell{O:Nat→Prop}(w:World){p:Addr}(hp:O p.block∨w.heap.size≤p.block)(u:Value):Kept O w (w.setCell p u):=
 ⟨rfl,rfl,rfl,by simp [World.setCell],fun k hk hn=>Below.heap_setCell w p u k (by rintro rfl; rcases hp with h | h; exact hn h; omega)⟩
theorem Kept.below{w w':World}(h:Kept No w w'):Below w.heap.size w w':=⟨h.os,h.tape,h.output,h.size,fun k hk=>h.block k hk id⟩
theorem Kept.cell{O:Nat→Prop}{w w':World}(h:Kept O w w'){p:Addr}{u:Value}(hp:w.cell? p=some u)(hn:¬ O p.block):w'.cell? p=some u:=
 (World.cell?_of_block (h.block p.block (World.block_lt_of_cell? w p hp) hn)).trans hp
def Blk(w:World)(g:Nat)(t:TypeId)(cs:Array Value):Prop:=w.heap[g]?=some (.cells cs t (0,0))
section
variable {w w':World} {g:Nat} {t:TypeId} {cs:Array Value}
theorem Blk.lt(h:Blk w g t cs):g<w.heap.size:=by
 rcases Nat.lt_or_ge g w.heap.size with hlt | hge
 ·exact hlt
 ·unfold Blk at h; rw [Array.getElem?_eq_none hge] at h; cases h
theorem Blk.cell(h:Blk w g t cs)(i:Nat):w.cell? ⟨g,i,none⟩=cs[i]?:=cell_of_row w g i cs t (0,0) h
theorem Blk.new(w:World)(t:TypeId)(cs:Array Value):Blk (w.alloc (.cells cs t)) w.heap.size t cs:=heap_alloc_new w _
theorem Blk.news(h:Blk w g t cs):∀ (j:Nat) (u:Value),cs.toList[j]?=some u→w.cell? ((⟨g,0,none⟩:Addr).add j)=some u:=World.news_of_block h
theorem Blk.keep{O:Nat→Prop}(h:Blk w g t cs)(hk:Kept O w w')(hn:¬ O g):Blk w' g t cs:=(hk.block g h.lt hn).trans h
theorem Blk.keepN(h:Blk w g t cs)(hk:Kept No w w'):Blk w' g t cs:=h.keep hk id
theorem Blk.drewN(h:Blk w g t cs)(n:Nat):Blk (w.drewN n) g t cs:=h
end
def Rd(w:World)(O:Nat→Prop)(size:Nat)(A:Option Addr)(n:Nat)(xs:List Value):Prop:=
 xs.length=n*size∧(0<n→∃ ad,A=some ad∧¬ O ad.block∧∀ j u,xs[j]?=some u→w.cell? (ad.add j)=some u)
section
variable {w w':World} {O O':Nat→Prop} {size n:Nat} {A:Option Addr} {xs:List Value}
theorem Rd.nil(w:World)(O:Nat→Prop)(size:Nat)(A:Option Addr):Rd w O size A 0 []:=⟨by simp,fun h=>absurd h (by omega)⟩
theorem Rd.keep(h:Rd w O size A n xs)(hk:Kept O' w w')(hO:∀ k,O' k→O k):Rd w' O size A n xs:=
 ⟨h.1,fun hn=>by
  obtain ⟨ad,e,hb,hc⟩:=h.2 hn
  exact ⟨ad,e,hb,fun j u hu=>hk.cell (hc j u hu) (by rw [zA1]; exact fun h=>hb (hO _ h))⟩⟩
theorem Rd.keepN(h:Rd w O size A n xs)(hk:Kept No w w'):Rd w' O size A n xs:=h.keep hk (fun _ h=>zn1 h)
theorem Rd.drewN(h:Rd w O size A n xs)(k:Nat):Rd (w.drewN k) O size A n xs:=h.keepN (Kept.drewN _ _ _)
theorem Rd.sub(h:Rd w O size A n xs)(hO:∀ k,O' k→O k):Rd w O' size A n xs:=
 ⟨h.1,fun hn=>by obtain ⟨ad,e,hb,hc⟩:=h.2 hn; exact ⟨ad,e,fun h=>hb (hO _ h),hc⟩⟩
theorem Rd.at_{k:Nat}(h:Rd w O 1 A n xs)(hk:k<n):∃ ad u,A=some ad∧¬ O ad.block∧xs[k]?=some u∧w.cell? (ad.add k)=some u:=by
 obtain ⟨ad,e,hb,hc⟩:=h.2 (by omega)
 have hl:k<xs.length:=by have:=h.1; omega
 exact ⟨ad,xs[k],e,hb,Wc hl,hc k _ (Wc hl)⟩
end
def zXT{α:Type}(f:α→Value)(O:Nat→Prop)(w:World)(xs:List α)(e:Ending)(w':World):Prop:=∃ (A:Option Addr) (c:Nat),e=.returned (.slice A xs.length c)∧Rd w' O 1 A xs.length (xs.map f)∧Kept No w w'
end
section
inductive V where
 | sc (v:Value)
 | agg (cs:List V)
 | tup (vs:List V)
 | sl (sz:Nat) (es:List (List V))
 | gs (sz:Nat) (es:List (List V))
 | own (id off len sz:Nat)
 | ptr (id off:Nat)
 | fp (n:Nat) (cs:List V)
 | fn (f:Nat) (caps:List V)
 | bx (p:Bool) (cs:List V)
 | fr (sz:Nat) (es:List (List V))
 | ub
 | mp (id:Nat)
 | st (cs:List V)
 | cut (id off len cap sz:Nat)
 | junk
 deriving Inhabited
inductive B where
 | gone
 | live (p:Bool) (cs:List V)
 | fz (cs:List V)
 | mp (es:List (V × V))
 | dead (n:Nat)
 deriving Inhabited
structure St where
 t:List V
 b:List B
inductive Src where
 | tmp (t:Nat)
 | const (v:V)
inductive K where
 | move (x:Src) (take:Bool)
 | pick (c a b:Src)
 | alloc (p:Bool) (cs:List V)
 | box (p:Bool) (x:Src)
 | build (zero:List V) (parts:List (Nat × Nat × Src))
 | buildSt (zero:List V) (parts:List (Nat × Nat × Src))
 | nilS (sz id:Nat)
 | unpin (x:Src)
 | buildSlice (sz n:Nat) (zero:List V) (parts:List (Nat × Nat × Src))
 | load (agg:Bool) (n:Nat) (a:Src) (take:Bool)
 | store (n:Nat) (a x:Src)
 | storeF (n:Nat) (a x:Src) (xs:List Nat)
 | nilCheck (x:Src)
 | bin (op:BinOp) (x y:Src)
 | eqAgg (neg:Bool) (n:Nat) (x y:Src)
 | eqB (neg:Bool) (x y:Src)
 | nilT (neg:Bool) (x:Src)
 | un (op:UnOp) (x:Src)
 | conv (k:IntKind) (x:Src)
 | toStr (x:Src)
 | see (x:Src)
 | cmpB (x y:Src)
 | adc (sub:Bool) (x y c:Src)
 | makeSlice (sz bytes:Nat) (zero:List V) (l c:Src)
 | sliceA (n sz:Nat) (x:Src) (lo hi mx:Option Src)
 | sliceS (sz:Nat) (x:Src) (lo hi mx:Option Src)
 | sliceC (sz:Nat) (x:Src) (hi:Option Src)
 | fieldAddr (off:Nat) (x:Src)
 | field (agg:Bool) (off n:Nat) (x:Src)
 | indexAddrA (len sz:Nat) (x i:Src)
 | indexAddrS (sz:Nat) (x i:Src)
 | indexA (agg:Bool) (len sz:Nat) (x i:Src)
 | arrP (n sz:Nat) (x:Src)
 | lenS (x:Src)
 | lenT (x:Src)
 | lenA (n:Nat)
 | append (sz bytes:Nat) (s x:Src)
 | appendZ (sz bytes:Nat) (zero:List V) (s x:Src)
 | appendF (sz bytes:Nat) (s x:Src)
 | pinC (p:Bool) (sz:Nat) (a:Src)
 | loadS (n:Nat) (a:Src)
 | pinS (p:Bool) (sz:Nat) (x:Src)
 | copy (sz:Nat) (d s:Src)
 | clear (sz:Nat) (zero:List V) (x:Src)
 | mm (isMax:Bool) (x y:Src)
 | extract (x:Src) (i:Nat)
 | pull (x:Src) (i:Nat)
 | call (f:Nat) (args:List (Src × Nat)) (xs:List Nat)
 | callv (f:Src) (args:List (Src × Nat)) (xs:List Nat)
 | makeFunc (f:Nat) (caps:List Src)
 | makeMap
 | mlook (kd:Nat) (ok:Bool) (zero:V) (x k:Src)
 | mput (kd:Nat) (x k v:Src)
 | lenM (x:Src)
 | stuck
structure COp where
 dst:Option Nat
 pin:Bool
 guard:Option (Nat × Bool)
 k:K
structure Fl where
 q:Bool
 root:Option Nat
 w:List Nat
 s:Bool
 l:Bool
 nw:Bool
 wn:List Nat
 tk:Bool
def q0:Fl:=⟨false,none,[],false,false,false,[],false⟩
def q1:Fl:=⟨true,none,[],false,false,false,[],false⟩
def q2:Fl:=⟨false,none,[],true,false,false,[],false⟩
def ql(r:Nat)(w wn:List Nat):Fl:=⟨false,some r,w,false,true,false,wn,false⟩
def qn(w wn:List Nat):Fl:=⟨false,none,w,false,true,true,wn,false⟩
def qc(w wn:List Nat):Fl:=⟨false,none,w,false,true,false,wn,false⟩
inductive CC where
 | skip
 | reg (ops:List COp)
 | dreg (fz:List Nat) (ops:List (COp × Fl))
 | seq (a b:CC)
 | fork (p:CC) (c:Src) (a b:CC)
 | cond (c:Src) (a b:CC)
 | block (id:Nat) (a:CC)
 | loop (keepT keepB:List Bool) (a:CC)
 | mask (keepT keepB:List Bool)
 | exit (id:Nat)
 | ret
inductive RV where
 | tmp (t:Nat)
 | tmpP (t:Nat)
 | cell (t:Nat) (agg:Bool) (n:Nat)
 | cellS (t n:Nat) (p:Bool)
structure CF where
 ntmps:Nat
 res:List RV
 body:CC
inductive Ex where
 | normal
 | exit (id:Nat)
 | ret
def V.dem:V→V
 | .gs sz es=>.sl sz es
 | .tup []=>.tup []
 | .tup _=>.junk
 | .bx _ _=>.junk
 | .fr _ _=>.junk
 | v=>v
def V.tk:V→V
 | .gs sz es=>.gs sz es
 | .fr sz es=>.fr sz es
 | v=>v.dem
def V.mv:V→V
 | .tup vs=>.tup vs
 | v=>v.tk
def V.isJunk:V→Bool
 | .junk=>true
 | _=>false
def V.isHeld:V→Bool
 | .gs _ _ | .fr _ _ | .bx _ _=>true
 | _=>false
def V.isHard:V→Bool
 | .fr _ _ | .bx _ _=>true
 | _=>false
def zMg:V→Bool
 | .tup _=>false
 | _=>true
def zIe:V→Option (Nat × List (List V))
 | .gs sz []=>some (sz,[])
 | .fr sz es=>some (sz,es)
 | _=>none
def zMc:V→V
 | .gs sz []=>.fr sz []
 | v=>v
def frz(xs:List Nat)(z:List V):List V:=z.zipIdx.map fun p=>if xs.contains p.2 then zMc p.1 else p.1
def V.cells:V→List V
 | .agg cs=>cs
 | v=>[v]
def yf(sz:Nat):Nat→List V→List (List V)
 | 0,_=>[]
 | n+1,cs=>cs.take sz::yf sz n (cs.drop sz)
def V.plain:V→Option V
 | .sc v=>some (.sc v)
 | .agg cs=>some (.agg cs)
 | .sl sz es=>some (.sl sz es)
 | .gs sz es=>some (.sl sz es)
 | .fn f []=>some (.fn f [])
 | _=>none
def V.refd:V→Option V
 | .own id off len sz=>some (.own id off len sz)
 | v=>v.plain
def zam:V→Option Nat
 | .own id _ _ _=>some id
 | _=>none
def zuf:V→Bool
 | .ptr _ _=>true
 | _=>false
def V.int?:V→Option Int
 | .sc (.int _ n)=>some n
 | _=>none
def V.bool?:V→Option Bool
 | .sc (.bool b)=>some b
 | _=>none
def B.cs?:B→Option (List V)
 | .live true cs=>some cs
 | .fz cs=>some cs
 | _=>none
def Src.get(σ:St):Src→V
 | .tmp t=>σ.t.getD t .junk
 | .const v=>v
def Src.slot:Src→Option Nat
 | .tmp t=>some t
 | .const _=>none
def zbc(b:List B):V→Option V
 | .own id off len sz=>do
  let cs ← ((b[id]?).getD .gone).cs?
  pure (.sl sz (yf sz len (cs.drop off)))
 | .gs sz es=>some (.sl sz es)
 | v=>some v
def xd(cs:List V)(off:Nat)(new:List V):List V:=cs.take off++new++cs.drop (off+new.length)
def zcA(σ:St):List (Nat × Nat × Src)→List V→Option (List V)
 | [],cs=>some cs
 | (off,n,x)::rest,cs=>do
  let v ← (x.get σ).plain
  if v.cells.length=n∧off+n≤cs.length then zcA σ rest (xd cs off v.cells) else none
def zff(σ:St):List (Nat × Nat × Src)→List V→Option (List V)
 | [],cs=>some cs
 | (off,n,x)::rest,cs=>do
  let v ← (x.get σ).refd
  if v.cells.length=n∧off+n≤cs.length then zff σ rest (xd cs off v.cells) else none
def zr5(op:BinOp)(x y:Value):Option Value:=
 match op,x,y with
 | .shl,.int k a,.int _ b=>if b<0 then none else some (.int k (k.wrap (a*2 ^ (min b.toNat k.bits))))
 | .shr,.int k a,.int _ b=>if b<0 then none else some (.int k (a.fdiv (2 ^ (min b.toNat k.bits))))
 | op,.int k a,.int k' b=>
  if k≠k' then none else
  match op with
  | .add=>some (.int k (k.wrap (a+b)))
  | .sub=>some (.int k (k.wrap (a-b)))
  | .mul=>some (.int k (k.wrap (a*b)))
  | .quo=>if b=0 then none else some (.int k (k.wrap (a.tdiv b)))
  | .rem=>if b=0 then none else some (.int k (a.tmod b))
  | .and=>some (.int k (k.wrap (BitVec.ofInt k.bits a &&& BitVec.ofInt k.bits b).toNat))
  | .or=>some (.int k (k.wrap (BitVec.ofInt k.bits a ||| BitVec.ofInt k.bits b).toNat))
  | .xor=>some (.int k (k.wrap (BitVec.ofInt k.bits a ^^^ BitVec.ofInt k.bits b).toNat))
  | .andNot=>some (.int k (k.wrap (BitVec.ofInt k.bits a &&& ~~~ BitVec.ofInt k.bits b).toNat))
  | .eql=>some (.bool (a==b))
  | .neq=>some (.bool (a != b))
  | .lss=>some (.bool (decide (a<b)))
  | .leq=>some (.bool (decide (a≤b)))
  | .gtr=>some (.bool (decide (a>b)))
  | .geq=>some (.bool (decide (a≥b)))
  | _=>none
 | .eql,.string a,.string b=>some (.bool (a.toList==b.toList))
 | .neq,.string a,.string b=>some (.bool (!(a.toList==b.toList)))
 | _,_,_=>none
def zOO(op:UnOp)(x:Value):Option Value:=
 match op,x with
 | .neg,.int k n=>some (.int k (k.wrap (0-n)))
 | .not,.bool b=>some (.bool !b)
 | .xor,.int k n=>some (.int k (k.wrap (BitVec.ofInt k.bits (if k.signed then -1 else k.max) ^^^ BitVec.ofInt k.bits n).toNat))
 | _,_=>none
def ze0:List V→List V→Option Bool
 | [],[]=>some true
 | .sc (.int k a)::xs,.sc (.int k' b)::ys=>if k=k' then (ze0 xs ys).map (fun r=>(a==b)&&r) else none
 | _,_=>none
def zmw:V→V→Option Bool
 | .agg a,.agg b=>if a.length=b.length then ze0 a b else none
 | .sc (.int k a),.sc (.int k' b)=>if k=k' then some (a==b) else none
 | .sc (.string a),.sc (.string b)=>some (a==b)
 | _,_=>none
def zld:Nat→V→Bool
 | 0,.sc (.int _ _)=>true
 | 1,.sc (.string _)=>true
 | n+2,.agg cs=>cs.length==n
 | _,_=>false
def zyt(key:V):List (V × V)→Option (Option V)
 | []=>some none
 | (k,v)::es=>match zmw key k with
  | some true=>some (some v)
  | some false=>zyt key es
  | none=>none
def zMn(key val:V):List (V × V)→Option (List (V × V))
 | []=>some [(key,val)]
 | (k,v)::es=>match zmw key k with
  | some true=>some ((key,val)::es)
  | some false=>(zMn key val es).map ((k,v)::·)
  | none=>none
def zfZ:List (List V)→Option (List UInt8)
 | []=>some []
 | [.sc (.int .u8 n)]::es=>(zfZ es).map (UInt8.ofNat n.toNat::·)
 | _=>none
def znP(σ:St)(x:Option Src)(dflt:Nat)(most:Nat):Option Nat:=
 match x with
 | none=>some dflt
 | some s=>match (s.get σ).int? with
  | some i=>if 0≤i∧i≤most then some i.toNat else none
  | none=>none
def zhR(σ:St)(len:Nat)(lo hi mx:Option Src):Option (Nat × Nat × Nat):=do
 let m ← znP σ mx len len
 let h ← znP σ hi len m
 let l ← znP σ lo 0 h
 pure (l,h,m)
def zg:Nat:=140737488355328
def zHP(sub:Bool)(a b c:Int):Int:=match sub with
 | true=>WC ((a.toNat+18446744073709551616-b.toNat-c.toNat) % 18446744073709551616)
 | false=>WC ((a.toNat+b.toNat+c.toNat) % 18446744073709551616)
def zHK(sub:Bool)(a b c:Int):Int:=match sub with
 | true=>WC (if a.toNat<b.toNat+c.toNat then 1 else 0)
 | false=>WC ((a.toNat+b.toNat+c.toNat) / 18446744073709551616)
def xj(σ:St):K→Option V
 | .pick c a b=>do
  let t ← (c.get σ).bool?
  pure (if t then (a.get σ).dem else (b.get σ).dem)
 | .build zero parts=>do pure (.agg (← zcA σ parts zero))
 | .buildSt zero parts=>do pure (.st (← zff σ parts zero))
 | .nilCheck x=>match (x.get σ) with
  | .ptr id off=>some (.ptr id off)
  | .fp n cs=>some (.fp n cs)
  | .fn f caps=>some (.fn f caps)
  | _=>none
 | .bin op x y=>match x.get σ,y.get σ with
  | .sc a,.sc b=>(zr5 op a b).map .sc
  | _,_=>none
 | .eqAgg neg n x y=>match x.get σ,y.get σ with
  | .agg a,.agg b=>if a.length=n∧b.length=n then (ze0 a b).map (fun r=>.sc (.bool (if neg then !r else r))) else none
  | _,_=>none
 | .eqB neg x y=>match (x.get σ).bool?,(y.get σ).bool? with
  | some a,some b=>some (.sc (.bool (if neg then !(a==b) else (a==b))))
  | _,_=>none
 | .nilT neg x=>match (x.get σ).dem with
  | .sl _ es=>some (if es.isEmpty then .ub else .sc (.bool neg))
  | _=>none
 | .un op x=>match x.get σ with
  | .sc a=>(zOO op a).map .sc
  | _=>none
 | .conv k x=>match (x.get σ).int? with
  | some n=>some (.sc (.int k (k.wrap n)))
  | none=>none
 | .toStr x=>match zbc σ.b (x.get σ) with
  | some (.sl 1 es)=>(zfZ es).map (fun l=>.sc (.string ⟨l.toArray⟩))
  | _=>none
 | .see x=>match x.get σ with
  | .own id off len sz=>match σ.b[id]? with
   | some (.fz cs)=>some (.sl sz (yf sz len (cs.drop off)))
   | some (.live true [])=>if len=0 then some (.sl sz []) else none
   | _=>none
  | _=>none
 | .cmpB x y=>match zbc σ.b (x.get σ),zbc σ.b (y.get σ) with
  | some (.sl 1 es),some (.sl 1 fs)=>match zfZ es,zfZ fs with
   | some a,some b=>some (.sc (.int .i64 (Lib.compareBytes a b)))
   | _,_=>none
  | _,_=>none
 | .adc sub x y c=>match x.get σ,y.get σ,c.get σ with
  | .sc (.int .u64 a),.sc (.int .u64 b),.sc (.int .u64 d)=>if d=0∨d=1 then some (.tup [.sc (.int .u64 (zHP sub a b d)),.sc (.int .u64 (zHK sub a b d))]) else none
  | _,_,_=>none
 | .sliceA n sz x lo hi mx=>do
  let (l,h,m) ← zhR σ n lo hi mx
  match x.get σ with
  | .ptr id off=>match σ.b[id]? with
   | some (.live _ cs)=>if off+n*sz≤cs.length then some (if m=l then .gs sz [] else .own id (off+l*sz) (h-l) sz) else none
   | some (.fz cs)=>if off+n*sz≤cs.length then some (if m=l then .gs sz [] else .sl sz (yf sz (h-l) (cs.drop (off+l*sz)))) else none
   | _=>none
  | .fp q cs=>if n*sz≤q then some (.sl sz (yf sz (h-l) (cs.drop (l*sz)))) else none
  | _=>none
 | .sliceS sz x lo hi mx=>match (x.get σ).dem with
  | .sl sz' es=>do
   let (l,h,m) ← zhR σ es.length lo hi mx
   if sz=sz' then some (if mx.isSome∧m=l then .fr sz [] else .sl sz ((es.drop l).take (h-l))) else none
  | .own id off len sz'=>do
   let (l,h,m) ← zhR σ len lo hi mx
   if sz=sz' then some (if mx.isSome then (if m=l then .fr sz [] else .junk) else .own id (off+l*sz) (h-l) sz) else none
  | .cut id off _ cap sz'=>if hi.isSome∧mx.isNone then do
    let (l,h,_) ← zhR σ cap lo hi none
    if sz=sz' then some (.own id (off+l*sz) (h-l) sz) else none
   else none
  | _=>none
 | .sliceC sz x hi=>match x.get σ with
  | .own id off len sz'=>do
   let (_,h,_) ← zhR σ len none hi none
   if sz=sz'∧hi.isSome then some (.cut id off h len sz) else none
  | _=>none
 | .fieldAddr o x=>match x.get σ with
  | .ptr id off=>some (.ptr id (off+o))
  | .fp n cs=>if o≤n then some (.fp (n-o) (cs.drop o)) else none
  | _=>none
 | .field agg o n x=>match x.get σ with
  | .agg cs=>if agg then some (.agg ((cs.drop o).take n)) else cs[o]?
  | .st cs=>if agg then none else cs[o]?
  | _=>none
 | .indexAddrA len sz x i=>match (i.get σ).int? with
  | some j=>if 0≤j∧j<len then
    match x.get σ with
    | .ptr id off=>some (.ptr id (off+j.toNat*sz))
    | .fp n cs=>if len*sz≤n then some (.fp (n-j.toNat*sz) (cs.drop (j.toNat*sz))) else none
    | _=>none
   else none
  | none=>none
 | .indexAddrS sz x i=>match (i.get σ).int? with
  | some j=>if 0≤j then
    match (x.get σ).dem with
    | .sl sz' es=>if sz=sz' then (es[j.toNat]?).map (fun c=>.fp sz c) else none
    | .own id off len sz'=>if sz=sz'∧j<len then some (.ptr id (off+j.toNat*sz)) else none
    | _=>none
   else none
  | none=>none
 | .indexA agg len sz x i=>match (i.get σ).int? with
  | some j=>if 0≤j∧j<len then
    match x.get σ with
    | .agg cs=>if agg then some (.agg ((cs.drop (j.toNat*sz)).take sz)) else cs[j.toNat*sz]?
    | _=>none
   else none
  | none=>none
 | .arrP n sz x=>match (x.get σ).dem with
  | .sl sz' es=>if sz=sz'∧0<n∧n≤es.length then some (.fp (n*sz) (es.take n).flatten) else none
  | .own id off len sz'=>if sz=sz'∧0<n∧n≤len then some (.ptr id off) else none
  | _=>none
 | .lenS x=>match (x.get σ).dem with
  | .sl _ es=>some (.sc (.int .i64 es.length))
  | .own _ _ len _=>some (.sc (.int .i64 len))
  | .cut _ _ len _ _=>some (.sc (.int .i64 len))
  | _=>none
 | .lenT x=>match x.get σ with
  | .sc (.string s)=>some (.sc (.int .i64 s.size))
  | _=>none
 | .lenA n=>some (.sc (.int .i64 n))
 | .mm isMax x y=>match x.get σ,y.get σ with
  | .sc (.int k a),.sc (.int _ b)=>some (.sc (.int k (if isMax then (if b>a then b else a) else (if b<a then b else a))))
  | _,_=>none
 | .pull x i=>match x.get σ with
  | .tup vs=>match vs[i]? with
   | some v=>if v.isHard then none else some v.dem
   | none=>none
  | _=>none
 | .makeFunc f caps=>if caps.all (fun c=>zuf (c.get σ)) then some (.fn f (caps.map (fun c=>c.get σ))) else none
 | _=>none
def St.demote(σ:St)(s:Src):St:=
 match s with
 | .tmp t=>{ σ with t:=σ.t.modify t V.dem }
 | .const _=>σ
def St.put(σ:St)(dst:Option Nat)(v:V):St:=
 match dst with
 | some d=>{ σ with t:=σ.t.set d v }
 | none=>σ
def St.setB(σ:St)(id:Nat)(x:B):St:={ σ with b:=σ.b.set id x }
def St.newB(nb:Nat)(σ:St)(dst:Option Nat)(x:B)(v:Nat→V):Option St:=
 match dst with
 | some d=>match σ.b[nb+d]? with
  | some .gone=>some ((σ.setB (nb+d) x).put dst (v (nb+d)))
  | _=>none
 | none=>none
def St.putG(nb:Nat)(σ:St)(dst:Option Nat)(pin:Bool)(sz:Nat)(es:List (List V)):Option St:=
 if pin then σ.newB nb dst (.live true es.flatten) (fun id=>.own id 0 es.length sz)
 else some (σ.put dst (.gs sz es))
def zn7(mode:Nat)(v:V):Option V:=
 if 2≤mode then match v with
  | .own id off len sz=>some (.own id off len sz)
  | .st cs=>some (.st cs)
  | _=>none
 else none
def zw5(σ:St)(s:Src × Nat):Option V:=
 match zn7 s.2 (s.1.get σ) with
 | some v=>some v
 | none=>match zbc σ.b (s.1.get σ) with
  | some (.ptr id off)=>some (.ptr id off)
  | some (.fp n cs)=>some (.fp n cs)
  | some (.fn f caps)=>some (.fn f caps)
  | some (.mp id)=>some (.mp id)
  | some (.agg cs)=>some (.agg (if s.2 % 2=1 then cs.map V.dem else cs))
  | some v=>v.plain
  | none=>none
def zsW(s:Src × Nat):Option V:=
 match s.1 with
 | .const (.gs sz [])=>if 2≤s.2 then some (.fr sz []) else none
 | _=>none
def zby(σ:St)(s:Src × Nat):Option V:=
 match zsW s with
 | some v=>some v
 | none=>zw5 σ s
def yX(b:List B)(id:Nat):List B:=
 match b[id]? with
 | some (.live true (c::cs))=>b.set id (.fz (c::cs))
 | _=>b
def xo(σ:St):List (Src × Nat)→List B→List B
 | [],b=>b
 | s::rest,b=>xo σ rest (if 2≤s.2 then b else match zam (s.1.get σ) with | some id=>yX b id | none=>b)
def yG:V→List Nat
 | .ptr id _=>[id]
 | .own id _ _ _=>[id]
 | .cut id _ _ _ _=>[id]
 | .st cs=>cs.filterMap zam
 | .mp id=>[id]
 | .fn _ caps=>caps.filterMap (fun | .ptr id _=>some id | _=>none)
 | _=>[]
def zGW(b:List B)(id:Nat):List Nat:=
 match b[id]? with
 | some (.live false cs)=>cs.flatMap yG
 | _=>[]
def zeZ(b:List B):Nat→List Nat→List Nat→List Nat
 | 0,_,acc=>acc
 | _,[],acc=>acc
 | n+1,id::todo,acc=>if acc.contains id then zeZ b n todo acc else zeZ b n (todo++zGW b id) (acc++[id])
def zar(b:List B)(args:List V):List Nat:=zeZ b 40 (args.flatMap yG) []
def yN(ids:List Nat)(id:Nat):Nat:=ids.idxOf id
def zVg(g:Nat→Nat):V→V
 | .ptr id off=>.ptr (g id) off
 | v=>v
def zLM(g:Nat→Nat):V→V
 | .own id off len sz=>.own (g id) off len sz
 | v=>v
def zdS(g:Nat→Nat):V→V
 | .ptr id off=>.ptr (g id) off
 | .own id off len sz=>.own (g id) off len sz
 | .cut id off len cap sz=>.cut (g id) off len cap sz
 | .st cs=>.st (cs.map (zLM g))
 | .mp id=>.mp (g id)
 | .fn f caps=>.fn f (caps.map (zVg g))
 | v=>v
def zce(ids:List Nat):V→Bool
 | .sc _ | .sl _ _ | .gs _ _ | .fp _ _ | .junk=>true
 | .ptr id _=>ids.contains id
 | .own id _ _ _=>ids.contains id
 | .mp id=>ids.contains id
 | .fn _ caps=>caps.all (fun | .ptr id _=>ids.contains id | _=>false)
 | _=>false
abbrev Bor:=List B
def B.len:B→Nat
 | .live _ cs=>cs.length
 | .dead n=>n
 | _=>0
def B.lend(ids:List Nat):B→Bool
 | .live p cs=>p||cs.all (zce ids)
 | .mp _=>true
 | .dead _=>true
 | _=>false
def B.isRow:B→Bool
 | .live true _=>true
 | _=>false
def B.isMp:B→Bool
 | .mp _=>true
 | _=>false
def ziQ:Bor→Bor→Bool
 | [],[]=>true
 | a::l,b::m=>(a.isMp==b.isMp)&&ziQ l m
 | _,_=>false
def B.ren(g:Nat→Nat):B→B
 | .live p cs=>.live p (if p then cs else cs.map (zdS g))
 | x=>x
def ze5(b:List B)(ids:List Nat):List Nat→Option Bor
 | []=>some []
 | id::rest=>do
  match b[id]? with
  | some (.live true cs)=>pure (.live true cs::(← ze5 b ids rest))
  | some (.live false cs)=>if cs.all (zce ids) then pure (.live false (cs.map (zdS (yN ids)))::(← ze5 b ids rest)) else none
  | some (.mp es)=>pure (.mp es::(← ze5 b ids rest))
  | _=>none
def zas(g:Nat→Nat):List Nat→Bor→List B→List B
 | id::ids,x::bor,b=>zas g ids bor (b.set id (x.ren g))
 | _,_,b=>b
def St.putR(nb:Nat)(σ:St)(dst:Option Nat)(pin:Bool)(v:V):Option St:=
 match v with
 | .gs sz es=>if pin then none else some (σ.put dst (.gs sz es))
 | .fr sz es=>σ.putG nb dst pin sz es
 | .bx p cs=>σ.newB nb dst (.live p cs) (fun id=>.ptr id 0)
 | v=>some (σ.put dst v)
def ztI:V→Bool
 | .ptr _ _ | .tup _ | .mp _ | .cut _ _ _ _ _=>false
 | .fn _ caps=>caps.isEmpty
 | _=>true
def zGE:V→Bool
 | .tup vs=>vs.all ztI
 | v=>ztI v
def zj1:V→List Nat
 | .tup vs=>vs.flatMap yG
 | v=>yG v
def zoI(g:Nat→Nat):V→V
 | .tup vs=>.tup (vs.map (zdS g))
 | v=>zdS g v
def zkV(b:List B)(nb:Nat):List Nat→Bool
 | []=>true
 | x::xs=>!(xs.contains x)&&(match b[nb+x]? with | some .gone=>true | _=>false)&&zkV b nb xs
abbrev CB:=Nat→List V→Bor→Option (V × Bor)
def zd7(cb:CB)(nb:Nat)(σ:St)(dst:Option Nat)(pin:Bool)(f:Nat)(args:List V)(srcs:List (Src × Nat))(xs:List Nat):Option St:=do
 let σ1:St:={ σ with b:=xo σ srcs σ.b }
 let ids:=zar σ1.b args
 let bor ← ze5 σ1.b ids ids
 let (r,bor') ← cb f (args.map (zdS (yN ids))) bor
 let ids':=ids++(xs.map (nb+·)).take (bor'.length-ids.length)
 if (bor'.take ids.length).map B.len=bor.map B.len∧bor'.length=ids'.length∧args.all (fun a=>(yG a).all ids.contains)∧zGE r∧(zj1 r).all (fun k=>decide (k<ids'.length))∧bor'.all (B.lend (Wy ids'.length))∧ziQ (bor'.take ids.length) bor∧(bor'.drop ids.length).all B.isRow∧zkV σ1.b nb xs then
  St.putR nb { σ1 with b:=zas (fun k=>ids'.getD k 0) ids' bor' σ1.b } dst pin (zoI (fun k=>ids'.getD k 0) r)
 else none
def zo4(b:List B):V→Option V
 | .own id off len sz=>match b[id]? with
  | some (.fz cs)=>some (.sl sz (yf sz len (cs.drop off)))
  | some (.live _ [])=>if len=0 then some (.sl sz []) else none
  | _=>none
 | v=>v.plain
def yd(cb:CB)(nb:Nat)(σ:St)(dst:Option Nat)(pin:Bool):K→Option St
 | .move x take=>
  if pin then none else if take then some ((σ.demote x).put dst (x.get σ).mv) else some (σ.put dst (x.get σ).dem)
 | .alloc p cs=>σ.newB nb dst (.live p cs) (fun id=>.ptr id 0)
 | .box p x=>match x.get σ with
  | .st cs=>if p then none else σ.newB nb dst (.live false cs) (fun id=>.ptr id 0)
  | v=>match v.plain with
   | some v=>σ.newB nb dst (.live p v.cells) (fun id=>.ptr id 0)
   | none=>none
 | .buildSlice sz n zero parts=>do
  let cs ← zcA σ parts (We n zero).flatten
  if n=0∧pin=true then some (σ.put dst (.fr sz [])) else σ.putG nb dst pin sz (yf sz n cs)
 | .load agg n a take=>match a.get σ with
  | .ptr id off=>match σ.b[id]? with
   | some (.live p cs)=>
    if agg then
     if off+n≤cs.length then
      if p then some (σ.put dst (.agg ((cs.drop off).take n)))
      else if take then do
       let vs ← ((cs.drop off).take n).mapM V.refd
       some (σ.put dst (.st vs))
      else do
       let vs ← ((cs.drop off).take n).mapM V.plain
       some (σ.put dst (.agg vs))
     else none
    else match cs[off]? with
     | some v=>if take then (if p then none else some ((σ.setB id (.live p (cs.set off v.dem))).put dst v.tk)) else some (σ.put dst v.dem)
     | none=>none
   | some (.fz cs)=>
    if agg then (if off+n≤cs.length then some (σ.put dst (.agg ((cs.drop off).take n))) else none)
    else match cs[off]? with
     | some v=>some (σ.put dst v)
     | none=>none
   | _=>none
  | .fp m cs=>
   if agg then (if n≤m then some (σ.put dst (.agg (cs.take n))) else none)
   else match cs[0]? with
    | some v=>some (σ.put dst v)
    | none=>none
  | _=>none
 | .store n a x=>if dst.isSome then none else match a.get σ with
  | .ptr id off=>match σ.b[id]? with
   | some (.live true cs)=>do
    let v ← (x.get σ).plain
    if v.cells.length=n∧off+n≤cs.length then some (σ.setB id (.live true (xd cs off v.cells))) else none
   | some (.live false cs)=>
    match x.get σ with
    | .agg us=>if us.length=n∧off+n≤cs.length then some (σ.setB id (.live false (xd cs off us))) else none
    | .st us=>if us.length=n∧off+n≤cs.length then some (σ.setB id (.live false (xd cs off us))) else none
    | .tup _=>none
    | .bx _ _=>none
    | .junk=>none
    | v=>if n=1∧off<cs.length then some ((σ.demote x).setB id (.live false (cs.set off v))) else none
   | _=>none
  | _=>none
 | .makeSlice sz bytes zero l c=>match (l.get σ).int?,(c.get σ).int? with
  | some l,some c=>if 0≤l∧l≤c∧c.toNat*bytes≤zg∧c≤zg then (if pin then σ.newB nb dst (.live true (We c.toNat zero).flatten) (fun id=>.own id 0 l.toNat sz) else σ.putG nb dst false sz (We l.toNat zero)) else none
  | _,_=>none
 | .append sz bytes s x=>match s.get σ,zbc σ.b (x.get σ) with
  | .gs sz1 es,some (.sl sz2 es2)=>
   if sz1=sz∧(sz2=sz∨es2=[])∧(es.length+es2.length)*bytes≤zg∧es.length+es2.length≤zg then
    if pin then (match s,es with
     | .const _,[]=>σ.putG nb dst true sz es2
     | _,_=>none)
    else some ((σ.demote s).put dst (.gs sz (es++es2)))
   else none
  | .fr sz1 [],some (.sl sz2 es2)=>
   if sz1=sz∧(sz2=sz∨es2=[])∧(0+es2.length)*bytes≤zg∧0+es2.length≤zg then (σ.demote s).putG nb dst pin sz es2
   else none
  | .own id off len sz1,some (.sl sz2 es2)=>match σ.b[id]? with
   | some (.live true cs)=>
    if sz1=sz∧(sz2=sz∨es2=[])∧off=0∧(len+es2.length)*bytes≤zg∧len+es2.length≤zg∧(len+es2.length≠0∨cs.length=0) then
     (σ.setB id (.dead cs.length)).newB nb dst (.live true (cs.take (len*sz)++es2.flatten)) (fun id'=>.own id' 0 (len+es2.length) sz)
    else none
   | _=>none
  | .cut id off len cap sz1,some (.sl sz2 es2)=>match σ.b[id]? with
   | some (.live true cs)=>
    if sz1=sz∧(sz2=sz∨es2=[])∧off=0∧len+es2.length≤cap∧pin=false then
     some ((σ.setB id (.live true (xd cs (len*sz) es2.flatten))).put dst (.cut id 0 (len+es2.length) cap sz))
    else none
   | _=>none
  | _,_=>none
 | .appendF sz bytes s x=>if pin then none else match zIe (s.get σ),zbc σ.b (x.get σ) with
  | some (sz1,es),some (.sl sz2 es2)=>
   if sz1=sz∧(sz2=sz∨es2=[])∧(es.length+es2.length)*bytes≤zg∧es.length+es2.length≤zg∧es.length+es2.length≠0 then some ((σ.demote s).put dst (.fr sz (es++es2))) else none
  | _,_=>none
 | .pinC p sz a=>match a.get σ with
  | .ptr id off=>match σ.b[id]? with
   | some (.live false cs)=>match cs[off]? with
    | some (.fr sz1 es)=>match dst with
     | some d=>if sz1=sz then (σ.setB id (.live false (cs.set off (.own (nb+d) 0 es.length sz)))).newB nb dst (.live p es.flatten) (fun id'=>.own id' 0 es.length sz) else none
     | none=>none
    | _=>none
   | _=>none
  | _=>none
 | .storeF n a x xs=>if dst.isSome then none else match a.get σ with
  | .ptr id off=>match σ.b[id]? with
   | some (.live false cs)=>match x.get σ with
    | .st us=>if us.length=n∧off+n≤cs.length then some (σ.setB id (.live false (xd cs off (frz xs us)))) else none
    | _=>none
   | _=>none
  | _=>none
 | .loadS n a=>match a.get σ with
  | .ptr id off=>match σ.b[id]? with
   | some (.live false cs)=>if off+n≤cs.length then do
     let vs ← ((cs.drop off).take n).mapM (zo4 σ.b)
     some (σ.put dst (.agg vs))
    else none
   | _=>none
  | _=>none
 | .pinS p sz x=>match x.get σ with
  | .fr sz1 es=>match x,dst with
   | .tmp t,some d=>if sz1=sz∧t≠d then (σ.put (some t) (.own (nb+d) 0 es.length sz)).newB nb dst (.live p es.flatten) (fun id'=>.own id' 0 es.length sz) else none
   | _,_=>none
  | _=>none
 | .appendZ sz bytes zero s x=>match s.get σ,(x.get σ).int? with
  | .gs sz1 es,some n=>
   if sz1=sz∧0≤n∧(es.length+n.toNat)*bytes≤zg∧es.length+n.toNat≤zg then
    if pin then none else (σ.demote s).putG nb dst false sz (es++We n.toNat zero)
   else none
  | _,_=>none
 | .copy sz d s=>match d.get σ,zbc σ.b (s.get σ) with
  | .own id off len sz1,some (.sl sz2 es)=>match σ.b[id]? with
   | some (.live true cs)=>
    if sz1=sz∧sz2=sz then
     some ((σ.setB id (.live true (xd cs off (es.take (min es.length len)).flatten))).put dst (.sc (.int .i64 ((min es.length len:Nat):Int))))
    else none
   | _=>none
  | _,_=>none
 | .clear sz zero x=>match x.get σ with
  | .own id off len sz1=>match σ.b[id]? with
   | some (.live true cs)=>if sz1=sz then some ((σ.setB id (.live true (xd cs off (We len zero).flatten))).put dst (.tup [])) else none
   | _=>none
  | _=>none
 | .extract x i=>match x.get σ with
  | .tup vs=>match vs[i]?,x with
   | some v,.tmp t=>
    if vs.all zMg∧dst≠some t then
     if v.isHeld then St.putR nb { σ with t:=σ.t.set t (.tup (vs.set i .junk)) } dst pin v
     else if (pin&&!v.isJunk)=true then none else some (σ.put dst v.dem)
    else none
   | _,_=>none
  | _=>none
 | .call f args xs=>do
  let vs ← args.mapM (zby σ)
  zd7 cb nb σ dst pin f vs args xs
 | .callv f args xs=>match f.get σ with
  | .fn g caps=>do
   let vs ← args.mapM (zby σ)
   zd7 cb nb σ dst pin g (vs++caps) args xs
  | _=>none
 | .makeMap=>σ.newB nb dst (.mp []) (fun id=>.mp id)
 | .nilS sz id=>match σ.b[nb+id]? with
  | some .gone=>some ((σ.setB (nb+id) (.live true [])).put dst (.own (nb+id) 0 0 sz))
  | _=>none
 | .mlook kd ok zero x k=>match x.get σ with
  | .mp id=>match σ.b[id]? with
   | some (.mp es)=>if zld kd (k.get σ) then do
     let r ← zyt (k.get σ) es
     pure (σ.put dst (if ok then .tup [r.getD zero,.sc (.bool r.isSome)] else r.getD zero))
    else none
   | _=>none
  | _=>none
 | .mput kd x k v=>if dst.isSome then none else match x.get σ with
  | .mp id=>match σ.b[id]? with
   | some (.mp es)=>if zld kd (k.get σ) then do
     let val ← (v.get σ).plain
     let es' ← zMn (k.get σ) val es
     pure (σ.setB id (.mp es'))
    else none
   | _=>none
  | _=>none
 | .lenM x=>match x.get σ with
  | .mp id=>match σ.b[id]? with
   | some (.mp es)=>some (σ.put dst (.sc (.int .i64 es.length)))
   | _=>none
  | _=>none
 | .unpin x=>if pin then none else match x.get σ with
  | .own id off len sz=>match σ.b[id]? with
   | some (.live true cs)=>if off=0∧len*sz≤cs.length∧cs.length≠0 then some ((σ.setB id (.dead cs.length)).put dst (.gs sz (yf sz len cs))) else none
   | _=>none
  | .gs sz es=>some ((σ.demote x).put dst (.gs sz es))
  | _=>none
 | k=>(xj σ k).map (fun v=>σ.put dst v)
def zad(σ:St):Option (Nat × Bool)→Option Bool
 | none=>some true
 | some (j,want)=>match σ.t[j]? with
  | some (.sc (.bool b))=>some (b==want)
  | some (.tup [])=>some false
  | _=>none
def xk(cb:CB)(nb:Nat)(σ:St)(o:COp):Option St:=
 match zad σ o.guard with
 | some true=>yd cb nb σ o.dst o.pin o.k
 | some false=>some (σ.put o.dst (.tup []))
 | none=>none
def zih(cb:CB)(nb:Nat):List COp→St→Option St
 | [],σ=>some σ
 | o::rest,σ=>(xk cb nb σ o).bind (zih cb nb rest)
def zk3(dead:Nat→Bool):V→V
 | .ptr id off=>if dead id then .junk else .ptr id off
 | .own id off len sz=>if dead id then .junk else .own id off len sz
 | .mp id=>if dead id then .junk else .mp id
 | .st cs=>if cs.any (fun | .own id _ _ _=>dead id | _=>false) then .junk else .st cs
 | .cut id off len cap sz=>if dead id then .junk else .cut id off len cap sz
 | .fn f caps=>if caps.any (fun | .ptr id _=>dead id | _=>true) then .junk else .fn f caps
 | .tup []=>.tup []
 | .tup _=>.junk
 | v=>v
def znZ(dead:Nat→Bool):List Bool→List V→List V
 | k::ks,v::vs=>(if k then zk3 dead v else .junk)::znZ dead ks vs
 | [],vs=>vs.map (fun _=>.junk)
 | _,[]=>[]
def zOj(dead:Nat→Bool):B→B
 | .live false cs=>.live false (cs.map (zk3 dead))
 | x=>x
def zuA(dead:Nat→Bool):List Bool→List B→List B
 | k::ks,v::vs=>(if k then zOj dead v else .gone)::zuA dead ks vs
 | [],vs=>vs.map (fun _=>.gone)
 | _,[]=>[]
def mask(kt kb:List Bool)(σ:St):St:=
 ⟨znZ (fun id=>!(kb.getD id false)) kt σ.t,zuA (fun id=>!(kb.getD id false)) kb σ.b⟩
def zN(nb:Nat)(kt kb:List Bool)(σ:St):St:=mask kt (We nb true++kb) σ
def znO(body:St→Option (Ex × St))(norm:St→St):Nat→St→Option (Ex × St)
 | 0,_=>none
 | n+1,σ=>match body (norm σ) with
  | some (.normal,σ')=>znO body norm n σ'
  | r=>r
def yy:K→Bool
 | .pick .. | .adc .. | .build .. | .buildSt .. | .nilCheck _ | .bin .. | .eqAgg .. | .eqB .. | .nilT .. | .un .. | .conv .. | .sliceS .. | .sliceC .. | .fieldAddr .. | .field .. | .indexAddrA .. | .indexAddrS .. | .indexA .. | .arrP .. | .lenS _ | .lenT _ | .lenA _ | .mm .. | .pull .. | .makeFunc ..=>true
 | .move _ take=>!take
 | _=>false
def zRL:Option B→Bool
 | some (.fz _)=>true
 | _=>false
def zS2:V→Bool
 | .cut _ _ _ _ _=>true
 | _=>false
def zi0(b:List B):V→Bool
 | .cut _ _ _ _ _=>false
 | .own id _ _ _=>zRL b[id]?
 | .ptr _ _=>false
 | .mp _=>false
 | .st _=>false
 | .fn _ caps=>caps.isEmpty
 | _=>true
def zcx(σ:St)(o:COp)(σ':St):Bool:=
 match zad σ o.guard with
 | some true=>match o.k with
  | .load agg _ _ take=>agg||!take
  | .toStr _ | .see _ | .loadS .. | .cmpB .. | .sliceA .. | .move .. | .mlook .. | .lenM _=>true
  | .buildSlice .. | .makeSlice ..=>!o.pin
  | .append _ _ s _=>!o.pin&&(zam (s.get σ)).isNone&&!zS2 (s.get σ)
  | .call _ args xs=>!o.pin&&xs.isEmpty&&args.all (fun s=>decide (s.2<2)&&zi0 σ.b (s.1.get σ))&&(match o.dst with | some d=>(match σ'.t[d]? with | some v=>!zuf v | none=>false) | none=>false)
  | .extract x i=>!o.pin&&match x.get σ with
   | .tup vs=>match vs[i]? with
    | some (.bx _ _)=>false
    | some _=>true
    | none=>false
   | _=>false
  | k=>yy k
 | some false=>true
 | none=>false
def zXi(o:COp):Bool:=yy o.k
def zag:K→Bool
 | .load agg _ _ take=>agg||!take
 | _=>false
def zSb:K→Bool
 | .loadS _ _=>true
 | _=>false
def zH7(k:K):Bool:=zag k||zSb k
def zwj(b:List B)(id off n:Nat):List Nat:=match b[id]? with
 | some (.live false cs)=>((cs.drop off).take n).filterMap zam
 | _=>[]
def za5(nb:Nat)(σ:St)(dst:Option Nat)(args:List V)(srcs:List (Src × Nat))(xs:List Nat):List Nat:=
 zar (xo σ srcs σ.b) args++srcs.filterMap (fun s=>zam (s.1.get σ))++xs.map (nb+·)++dst.toList.map (nb+·)
def zsM(nb:Nat)(σ:St)(o:COp)(id:Nat):Bool:=
 yy o.k||zag o.k||match zad σ o.guard with
  | some false=>true
  | _=>match o.k with
   | .call _ args xs=>match args.mapM (zby σ) with
    | some vs=>!((za5 nb σ o.dst vs args xs).contains id)
    | none=>false
   | .alloc _ _=>!((o.dst.toList.map (nb+·)).contains id)
   | .box _ _=>!((o.dst.toList.map (nb+·)).contains id)
   | _=>false
def zlO(nb:Nat)(σ:St)(o:COp):List Nat→Bool
 | []=>true
 | r::w=>(match σ.t[r]? with
  | some (.ptr id _)=>zsM nb σ o id
  | some (.fp _ _)=>true
  | _=>false)&&zlO nb σ o w
def znf(σ:St)(o:COp)(r:Nat):Bool:=
 zag o.k&&match o.k with
  | .load _ _ (.tmp p) _=>match σ.t[p]?,σ.t[r]? with
   | some (.ptr id _),some (.ptr id' _)=>Wf id id'
   | some (.fp _ _),_=>true
   | _,_=>false
  | _=>false
def zwS:V→Bool
 | .sc _ | .agg _ | .sl _ _ | .gs _ _ | .fp _ _=>true
 | .fn _ caps=>caps.isEmpty
 | _=>false
def zsv(σ:St)(o:COp)(σ':St):Bool:=
 match zad σ o.guard with
 | some false=>true
 | some true=>match o.k,o.dst with
  | .call _ args xs,some d=>!o.pin&&xs.isEmpty&&args.all (fun s=>decide (s.2<2)&&zwS (s.1.get σ))&&(match σ'.t[d]? with | some v=>!zuf v | none=>false)
  | _,_=>false
 | none=>false
def kOf(nb:Nat)(σ:St)(o:COp):Option (List Nat):=
 match zad σ o.guard with
 | none=>none
 | some false=>some []
 | some true=>match o.k with
  | .load _ _ a _=>match a.get σ with
   | .ptr id _=>some [id]
   | .fp _ _=>some []
   | _=>none
  | .loadS n a=>match a.get σ with
   | .ptr id off=>some (id::zwj σ.b id off n)
   | _=>none
  | .store _ a _=>match a.get σ with
   | .ptr id _=>some [id]
   | _=>none
  | .alloc _ _ | .box _ _=>o.dst.map fun d=>[nb+d]
  | .buildSlice .. | .makeSlice .. | .extract ..=>o.dst.map fun d=>[nb+d]
  | .move _ _=>some []
  | .append _ _ s x=>match s.get σ,x.get σ with
   | _,.own _ _ _ _=>none
   | .gs _ _,_=>o.dst.map fun d=>[nb+d]
   | .fr _ _,_=>o.dst.map fun d=>[nb+d]
   | _,_=>none
  | .call _ args xs=>match args.mapM (zby σ) with
   | some vs=>some (za5 nb σ o.dst vs args xs)
   | none=>none
  | .callv f args xs=>match f.get σ with
   | .fn _ caps=>match args.mapM (zby σ) with
    | some vs=>some (za5 nb σ o.dst (vs++caps) args xs)
    | none=>none
   | _=>none
  | _=>none
def zxi:V→Option Nat
 | .ptr id _=>some id
 | .own id _ _ _=>some id
 | _=>none
def zVf:V→Bool
 | .fp _ _=>true
 | .sl _ _=>true
 | .gs _ _=>true
 | _=>false
def zHu(σ:St)(r id:Nat):Bool:=match σ.t[r]? with
 | some v=>(match zxi v with | some id'=>Wf id id' | none=>false)
 | none=>false
def zqw(σ:St)(K:List Nat)(r:Nat):Bool:=match σ.t[r]? with
 | some v=>(match zxi v with | some id=>!K.contains id | none=>zVf v)
 | none=>false
def zx0(o:COp):Option Nat:=match o.dst with
 | some d=>some d
 | none=>match o.k with
  | .store _ (.tmp p) _=>some p
  | _=>none
def zov(nb:Nat)(σ:St)(o:COp)(fl:Fl):Bool:=match kOf nb σ o with
 | some K=>(match fl.root with | some r=>K.all (zHu σ r) | none=>true)&&(!fl.nw||(match zx0 o with | some d=>K.all (fun id=>Wf id (nb+d)) | none=>false))&&fl.w.all (zqw σ K)&&fl.wn.all (fun n=>!K.contains (nb+n))
 | none=>false
def zb7(nb:Nat)(σ:St)(o:COp)(fl:Fl)(σ':St):Bool:=
 cond fl.l (zov nb σ o fl) <| cond fl.s (zsv σ o σ') <| (!fl.q||zcx σ o σ')&&(match fl.root with | none=>true | some r=>znf σ o r)&&zlO nb σ o fl.w
def zOl:V→Bool
 | .gs _ _ | .fr _ _=>true
 | _=>false
def zo7(fl:Fl)(o:COp)(σ':St):Bool:=!fl.tk||(match o.dst with | some d=>(match σ'.t[d]? with | some v=>zOl v | none=>false) | none=>false)
def flT(nb:Nat)(σ:St)(o:COp)(fl:Fl)(σ':St):Bool:=zb7 nb σ o fl σ'&&zo7 fl o σ'
def zmx(cb:CB)(nb:Nat):List (COp × Fl)→St→Option St
 | [],σ=>some σ
 | (o,q)::rest,σ=>match xk cb nb σ o with
  | some σ'=>if flT nb σ o q σ' then zmx cb nb rest σ' else none
  | none=>none
def zOb:V→V→Bool
 | .junk,.junk=>true
 | .ub,.ub=>true
 | .tup [],.tup []=>true
 | .gs a [],.gs b []=>Wf a b
 | .sl a [],.sl b []=>Wf a b
 | .own a o l s,.own a' o' l' s'=>Wf a a'&&Wf o o'&&Wf l l'&&Wf s s'
 | _,_=>false
def zBq:List V→List V→Bool
 | [],[]=>true
 | a::l,b::m=>zOb a b&&zBq l m
 | _,_=>false
def ztF:List B→List B→Bool
 | [],[]=>true
 | .gone::l,.gone::m=>ztF l m
 | .live true []::l,.live true []::m=>ztF l m
 | _,_=>false
def zG7:Option (Ex × St)→Option (Ex × St)→Bool
 | some (.ret,σ),some (.ret,τ)=>zBq σ.t τ.t&&ztF σ.b τ.b
 | some (.normal,σ),some (.normal,τ)=>zBq σ.t τ.t&&ztF σ.b τ.b
 | _,_=>false
theorem zR8:∀ {a b:V},zOb a b=true→a=b:=by
 intro a b h
 unfold zOb at h
 split at h
 ·rfl
 ·rfl
 ·rfl
 ·rw [Wd h]
 ·rw [Wd h]
 ·simp only [Wh] at h
  obtain ⟨⟨⟨h1,h2⟩,h3⟩,h4⟩:=h
  rw [Wd h1,Wd h2,Wd h3,Wd h4]
 ·cases h
theorem zBF:∀ {a b:List V},zBq a b=true→a=b
 | [],[],_=>rfl
 | [],_::_,h=>by cases h
 | _::_,[],h=>by cases h
 | a::l,b::m,h=>by
  simp only [zBq,Wh] at h
  rw [zR8 h.1,zBF h.2]
theorem zuE:∀ {a b:List B},ztF a b=true→a=b
 | [],[],_=>rfl
 | [],b::_,h=>by simp [ztF] at h
 | a::l,c,h=>by
  unfold ztF at h
  split at h
  ·rename_i e; cases e
  ·rename_i e; cases e; rw [zuE h]
  ·rename_i e; cases e; rw [zuE h]
  ·cases h
theorem zxu{r s:Option (Ex × St)}(h:zG7 r s=true):r=s:=by
 unfold zG7 at h
 split at h
 ·rename_i σ τ
  simp only [Wh] at h
  have h1:=zBF h.1
  have h2:=zuE h.2
  cases σ; cases τ; simp_all
 ·rename_i σ τ
  simp only [Wh] at h
  have h1:=zBF h.1
  have h2:=zuE h.2
  cases σ; cases τ; simp_all
 ·cases h
def zKm(r s:Option (Ex × St)):Bool:=zG7 r s&&(match s with | some (.ret,_)=>true | _=>false)
theorem zD1{r s:Option (Ex × St)}(h:zKm r s=true):r=s∧∃ σ,s=some (.ret,σ):=by
 simp only [zKm,Wh] at h
 refine ⟨zxu h.1,?_⟩
 have h2:=h.2
 split at h2
 ·exact ⟨_,rfl⟩
 ·cases h2
def zcj(b:List B)(id:Nat):List B:=match b[id]? with
 | some (.live false (c::cs))=>match (c::cs).mapM V.plain with
  | some vs=>b.set id (.fz vs)
  | none=>b
 | _=>b
def zmA(nb:Nat):List Nat→St→St
 | [],σ=>σ
 | d::fz,σ=>match Nat.blt d 100000 with
  | true=>zmA nb fz { σ with b:=yX σ.b (nb+d) }
  | false=>zmA nb fz { σ with b:=zcj σ.b (nb+(d-100000)) }
def run(cb:CB)(nb:Nat)(L:Nat):CC→St→Option (Ex × St)
 | .skip,σ=>some (.normal,σ)
 | .reg ops,σ=>(zih cb nb ops σ).map (fun σ=>(.normal,σ))
 | .dreg fz ops,σ=>(zmx cb nb ops (zmA nb fz σ)).map (fun σ=>(.normal,σ))
 | .seq a b,σ=>match run cb nb L a σ with
  | some (.normal,σ')=>run cb nb L b σ'
  | r=>r
 | .fork p c a b,σ=>match run cb nb L p σ with
  | some (.normal,σ')=>match c.get σ' with
   | .ub=>if zKm (run cb nb L a σ') (run cb nb L b σ') then run cb nb L b σ' else none
   | v=>match v.bool? with
    | some true=>match run cb nb L a σ' with
     | some (.normal,σ2)=>run cb nb L b σ2
     | r=>r
    | some false=>run cb nb L b σ'
    | none=>none
  | r=>r
 | .cond c a b,σ=>match c.get σ with
  | .ub=>if zG7 (run cb nb L a σ) (run cb nb L b σ) then run cb nb L b σ else none
  | v=>match v.bool? with
   | some t=>if t then run cb nb L a σ else run cb nb L b σ
   | none=>none
 | .block id a,σ=>match run cb nb L a σ with
  | some (.exit j,σ')=>if j=id then some (.normal,σ') else some (.exit j,σ')
  | r=>r
 | .loop kt kb a,σ=>znO (run cb nb L a) (zN nb kt kb) L σ
 | .mask kt kb,σ=>some (.normal,zN nb kt kb σ)
 | .exit id,σ=>some (.exit id,σ)
 | .ret,σ=>some (.ret,σ)
def zFB(nb:Nat)(b:List B):V→Option V
 | .own id off len sz=>if nb≤id then match b[id]? with
   | some (.live true cs)=>some (.sl sz (yf sz len (cs.drop off)))
   | some (.fz cs)=>some (.sl sz (yf sz len (cs.drop off)))
   | _=>none
  else none
 | v=>v.plain
def zaT(nb:Nat)(σ:St):RV→Option V
 | .tmp t=>match σ.t.getD t .junk with
  | .own id off len sz=>if nb≤id then (if off=0∧0<sz then match σ.b[id]? with
    | some (.live true cs)=>if len≠0∨cs.length=0 then some (.fr sz (yf sz len cs)) else none
    | _=>none
   else none) else some (.own id off len sz)
  | .ptr id off=>if off=0∧nb≤id then match σ.b[id]? with
    | some (.live p cs)=>if cs.length≠0 then (if p then some (.bx p cs) else (cs.mapM V.plain).map (.bx p)) else none
    | _=>none
   else none
  | .cut id off len _ sz=>if nb≤id then none else some (.own id off len sz)
  | .sc v=>some (.sc v)
  | .agg cs=>some (.agg cs)
  | .sl sz es=>some (.sl sz es)
  | .gs sz es=>some (.gs sz es)
  | .st cs=>some (.st cs)
  | _=>none
 | .tmpP t=>match σ.t.getD t .junk with
  | .own id off len sz=>if nb≤id∧off=0∧0<sz then match σ.b[id]? with
    | some (.live true cs)=>some (.gs sz (yf sz len cs))
    | _=>none
   else none
  | .st cs=>(cs.mapM (zFB nb σ.b)).map .agg
  | .sc v=>some (.sc v)
  | .agg cs=>some (.agg cs)
  | .sl sz es=>some (.sl sz es)
  | .gs sz es=>some (.gs sz es)
  | _=>none
 | .cell t agg n=>match σ.t.getD t .junk with
  | .ptr id off=>match σ.b[id]? with
   | some (.live p cs)=>
    if agg then
     if off=0∧cs.length=n∧n≠0 then (if p then some (.agg cs) else (cs.mapM V.plain).map .agg) else none
    else if n=1∧off=0 then (cs[0]?).bind V.plain else none
   | _=>none
  | _=>none
 | .cellS _ _ _=>none
def RV.slot:RV→Option Nat
 | .tmp t=>some t
 | .tmpP t=>some t
 | .cell _ _ _=>none
 | .cellS _ _ _=>none
def RV.low(n:Nat):RV→Bool
 | .tmp t=>decide (t<n)
 | .tmpP t=>decide (t<n)
 | .cell t _ _=>decide (t<n)
 | .cellS _ _ _=>false
def RV.boxed(cs rp:Bool):RV→RV
 | .cell t true n=>if cs then .cellS t n rp else .cell t true n
 | r=>r
def zjP(n0:Nat):List RV→St→Option (St × List RV)
 | [],σ=>some (σ,[])
 | .cellS t n p::rest,σ=>match σ.t[t]? with
  | some (.ptr id off)=>match σ.b[id]? with
   | some (.live false cs)=>if t<n0∧off=0∧cs.length=n∧n≠0 then match cs.mapM V.refd with
     | some vs=>match zjP n0 rest { σ with t:=σ.t++[.st vs] } with
      | some (σ1,rs)=>some (σ1,(if p then .tmpP σ.t.length else .tmp σ.t.length)::rs)
      | none=>none
     | none=>none
    else none
   | some (.live true _)=>if t<n0 then match zjP n0 rest σ with
     | some (σ1,rs)=>some (σ1,.cell t true n::rs)
     | none=>none
    else none
   | _=>none
  | _=>none
 | r::rest,σ=>if r.low n0 then match zjP n0 rest σ with
   | some (σ1,rs)=>some (σ1,r::rs)
   | none=>none
  else none
def zl0:List RV→Bool
 | []=>true
 | r::rest=>(match r.slot with | some t=>rest.all (fun q=>match q.slot with | some u=>t != u | none=>true) | none=>true)&&zl0 rest
def zfX(nb:Nat):V→List Nat
 | .own id _ _ _=>if nb≤id then [id] else []
 | .ptr id _=>[id]
 | .st cs=>(cs.filterMap zam).filter (fun id=>decide (nb≤id))
 | _=>[]
def zi5(nb:Nat)(σ:St):List RV→List Nat
 | []=>[]
 | r::rest=>(match r.slot with | some t=>zfX nb (σ.t.getD t .junk) | none=>[])++zi5 nb σ rest
def zgi:List Nat→Bool
 | []=>true
 | x::xs=>!xs.contains x&&zgi xs
def results(nb:Nat)(σ:St)(rs:List RV):Option V:=
 if zl0 rs&&zgi (zi5 nb σ rs) then
  match rs with
  | [r]=>zaT nb σ r
  | rs=>(rs.mapM (zaT nb σ)).map .tup
 else none
def zfn(nb:Nat)(r:V):List Nat:=Wy nb++(zj1 r).filter (fun id=>decide (nb≤id))
def zpY(b:List B)(nb:Nat)(ids:List Nat):List Nat→Option Bor
 | []=>some []
 | id::rest=>match b[id]? with
  | some x=>if x.lend ids&&(decide (id<nb)||x.isRow) then (zpY b nb ids rest).map (x.ren (yN ids)::·) else none
  | none=>none
def zBZ(nb:Nat)(σ:St)(rs:List RV):Option (V × Bor):=do
 let r ← results nb σ rs
 let b ← zpY σ.b nb (zfn nb r) (zfn nb r)
 if zgi (zfn nb r) then pure (zoI (yN (zfn nb r)) r,b) else none
def zxq(nb:Nat)(σ:St)(rs:List RV):Option (V × Bor):=match zjP σ.t.length rs σ with
 | some (σ1,rs1)=>zBZ nb σ1 rs1
 | none=>none
def enter(nt:Nat)(args:List V)(bor:Bor):St:=
 ⟨args++We (nt-args.length) (.tup []),bor++We nt .gone⟩
def zFk:Bool:=Wf 99999 99999
def frN(g:Nat):Bool:=Wf g 99999
def zKi:V→Bool
 | .sc _=>true
 | _=>false
def zFK:V→Bool
 | .sc _ | .agg _ | .sl _ _=>true
 | _=>false
def zHF(es:List (List V)):Bool:=!zFk&&(!es.isEmpty&&es.flatten.all zKi)
def zOA:V→Option V
 | .gs sz es=>some (if zHF es=true then .fr sz es else .junk)
 | .tup (.gs sz es::vs)=>if vs.all zKi=true then some (if zHF es=true then .tup (.fr sz es::vs) else .tup (.junk::vs)) else none
 | _=>none
def zrm(cb:CB):CB:=fun g args bor=>match frN g with
 | false=>cb g args bor
 | true=>match bor with
  | []=>match args.all zFK with
   | true=>match cb g args [] with
    | some (r,[])=>match zOA r with
     | some r'=>some (r',[])
     | none=>none
    | _=>none
   | false=>none
  | _=>none
def evF(T:Nat→Option CF)(pr:CB)(L:Nat):Nat→Nat→List V→Bor→Option (V × Bor)
 | 0,_,_,_=>none
 | d+1,f,args,bor=>match T f with
  | none=>pr f args bor
  | some c=>match run (zrm (evF T pr L d)) bor.length L c.body (enter c.ntmps args bor) with
   | some (.normal,σ) | some (.ret,σ)=>zxq bor.length σ c.res
   | _=>none
def zKj:Nat→Option (Nat × Nat)
 | 316=>some (3,24)
 | 399=>some (5,24)
 | 550=>some (38,96)
 | _=>none
def zUX(sz n m i:Nat)(cs vs:List V):List (List V):=yf sz (n+m) (cs.take (i*sz)++vs++(cs.take (n*sz)).drop (i*sz))
abbrev zTw(sz bytes n m:Nat)(i:Int)(cs vs:List V):Prop:=0≤i∧i≤n∧0<m∧n*sz≤cs.length∧vs.length=m*sz∧(n+m)*bytes≤zg∧n+m≤zg
def zx3:CB:=fun g args bor=>match args,bor with
 | [.fr 1 [],.sc (.int .i64 n)],[]=>if g=459∧0≤n∧n≤1000000000 then some (.gs 1 [],[]) else none
 | [.own 0 0 n s1,.sc (.int .i64 i),.own 1 0 m s2],[.live true cs,.live true vs]=>match zKj g with
  | some (sz,bytes)=>if s1=sz∧s2=sz∧zTw sz bytes n m i cs vs then some (.fr sz (zUX sz n m i.toNat cs vs),[.dead cs.length,.live true vs]) else none
  | none=>none
 | _,_=>none
abbrev Qa(n:Int):V:=V.sc (.int .u8 n)
abbrev Qb(n:Int):V:=V.sc (.int .u16 n)
abbrev Qc(n:Int):V:=V.sc (.int .u32 n)
abbrev Qd(n:Int):V:=V.sc (.int .u64 n)
abbrev Qe(n:Int):V:=V.sc (.int .i64 n)
end
section
abbrev Ls:=List (List V)
abbrev Lm:=List (V × V)
abbrev Ob(β:Type):=Option β
abbrev Msk:=Option (List Bool × List Bool)
structure Hint where
 take:List (Nat × Nat)
 pin:List (Nat × Nat)
 masks:List Msk
 fz:List (Nat × List Nat):=[]
 xs:List (Nat × Nat × List Nat):=[]
 rp:Bool:=false
 cs:Bool:=false
 rt:List (Nat × Nat):=[]
structure Rn where
 f:Nat→Option Nat
 g:Nat→Option (List V)
instance:CoeFun Rn (fun _=>Nat→Option Nat):=⟨Rn.f⟩
section
variable (P:Program) (ren:Rn)
def xx(t:TypeId):Option Nat:=(P.info? t).map (·.size)
def zap(t:TypeId):Option Bool:=(P.underlying t).map fun | .struct _ | .array _ _=>true | _=>false
def zKd:Nat→TypeId→Option (List V)
 | 0,_=>none
 | d+1,t=>match P.underlying t with
  | some .bool=>some [.sc (.bool false)]
  | some (.int k)=>some [.sc (.int k 0)]
  | some .string=>some [.sc (.string .empty)]
  | some (.slice e)=>do some [.gs (← xx P e) []]
  | some (.pointer _)=>some [.sc (.pointer none)]
  | some (.func _ _ _)=>some [.sc .nilFunc]
  | some (.map _ _)=>some [.sc (.map none)]
  | some (.array n e)=>do some (We n (← zKd d e)).flatten
  | some (.struct fs)=>do some (← fs.toList.mapM (fun f=>zKd d f.type)).flatten
  | _=>none
def zSc:V→Bool
 | .sc (.int _ _) | .sc (.bool _) | .sc (.string _)=>true
 | _=>false
def zMi:V→Value→Bool
 | .sc (.bool a),.bool b=>a==b
 | .sc (.int k a),.int k' b=>k==k'&&a==b
 | .sc (.string a),.string b=>a.size==0&&b.size==0
 | .sc (.pointer none),.pointer none=>true
 | .sc .nilFunc,.nilFunc=>true
 | .sc (.map none),.map none=>true
 | .gs _ [],.slice none 0 0=>true
 | _,_=>false
def zne:List V→List Value→Bool
 | [],[]=>true
 | v::vs,u::us=>zMi v u&&zne vs us
 | _,_=>false
def zgv(t:TypeId):Option (List V):=do
 let cs ← zKd P 20 t
 let z ← (P.info? t).bind (·.zero)
 if zne cs z.cells.toList then some cs else none
def zwJ(ty:TypeId):Value→Option V
 | .bool b=>some (.sc (.bool b))
 | .int k n=>some (.sc (.int k n))
 | .string s=>some (.sc (.string s))
 | .slice none 0 0=>match P.underlying ty with
  | some (.slice e)=>do some (.gs (← xx P e) [])
  | _=>none
 | .nilFunc=>some (.sc .nilFunc)
 | .pointer none=>some (.sc (.pointer none))
 | _=>none
def yj(ty:TypeId):Operand→Option Src
 | .tmp t=>some (.tmp t)
 | .const v=>(zwJ P ty v).map .const
 | .func f=>(ren f).map (fun g=>.const (.fn g []))
 | .global g=>(ren.g g).map (fun cs=>.const (.fp cs.length cs))
def zdl(ty:TypeId):Option Operand→Option (Option Src)
 | none=>some none
 | some x=>(yj P ren ty x).map some
def zkp(place:Nat→Option (Nat × TypeId)):List (Nat × Operand)→Option (List (Nat × Nat × Src))
 | []=>some []
 | (i,x)::rest=>do
  let (off,ty) ← place i
  let s ← yj P ren ty x
  let n ← xx P ty
  pure ((off,n,s)::(← zkp place rest))
def zF6:List Operand→List TypeId→Option (List Src)
 | [],_=>some []
 | x::xs,ts=>do
  let s ← yj P ren (ts.headD 0) x
  pure (s::(← zF6 xs ts.tail))
def zVS(t:TypeId):Bool:=match zap P t with
 | some true=>match zKd P 20 t with
  | some z=>!(z.all zSc)
  | none=>true
 | _=>false
def zqF(lend:Nat):List Operand→List TypeId→Option (List (Src × Nat))
 | [],_=>some []
 | x::xs,ts=>do
  let s ← yj P ren (ts.headD 0) x
  pure ((s,(if zVS P (ts.headD 0) then 1 else 0)+lend)::(← zqF lend xs ts.tail))
def zu4(fs:Array Field)(i:Nat):Option (Nat × TypeId):=(fs[i]?).map fun f=>(f.offset,f.type)
def zev(size:TypeId→Option Nat):List Field→Nat→Option Nat
 | [],off=>some off
 | f::fs,off=>do
  let s ← size f.type
  if f.name≠"_"∧f.offset=off∧xx P f.type=some s then zev size fs (off+s) else none
def zdu:Nat→TypeId→Option Nat
 | 0,_=>none
 | d+1,t=>match P.underlying t with
  | some (.int _)=>if xx P t=some 1 then some 1 else none
  | some (.array n e)=>do
   let s ← zdu d e
   if xx P e=some s then some (n*s) else none
  | some (.struct fs)=>if P.stoodInHeld t then none else zev P (zdu d) fs.toList 0
  | _=>none
def zu0(t:TypeId):Option Nat:=do
 match ← P.underlying t with
 | .int _=>some 0
 | .string=>some 1
 | .struct _ | .array _ _=>do some ((← zdu P 20 t)+2)
 | _=>none
def zKk(t:TypeId):Option V:=do
 let z ← zgv P t
 let b ← zap P t
 let zv ← (P.info? t).bind (·.zero)
 match b,zv,z with
 | true,.agg _,z=>some (.agg (z.map V.dem))
 | false,.agg _,_=>none
 | false,_,[v]=>some v.dem
 | _,_,_=>none
def ztG(b:Builtin)(args:List Operand)(ts:List TypeId):Option K:=
 match b,args,ts with
 | .len,[x],[t]=>do
  match ← P.underlying t with
  | .slice _=>some (.lenS (← yj P ren t x))
  | .string=>some (.lenT (← yj P ren t x))
  | .array n _=>some (.lenA n)
  | .map _ _=>some (.lenM (← yj P ren t x))
  | _=>none
 | .append,[s,x],[t,u]=>do
  match ← P.underlying t,← P.underlying u with
  | .slice e,.slice _=>
   let sz ← xx P e
   let i ← P.info? e
   let z ← zgv P e
   if 0<sz∧z.length=sz∧t=u then some (.append sz i.bytes (← yj P ren t s) (← yj P ren u x)) else none
  | .slice e,.int _=>
   let sz ← xx P e
   let i ← P.info? e
   let z ← zgv P e
   if 0<sz∧z.length=sz then some (.appendZ sz i.bytes (z.map V.dem) (← yj P ren t s) (← yj P ren u x)) else none
  | _,_=>none
 | .copy,[d,s],[t,u]=>do
  match ← P.underlying t,← P.underlying u with
  | .slice e,.slice _=>
   let sz ← xx P e
   if 0<sz then some (.copy sz (← yj P ren t d) (← yj P ren u s)) else none
  | _,_=>none
 | .clear,[x],[t]=>do
  match ← P.underlying t with
  | .slice e=>
   let sz ← xx P e
   let z ← zgv P e
   if 0<sz∧z.length=sz then some (.clear sz (z.map V.dem) (← yj P ren t x)) else none
  | _=>none
 | .min,[x,y],_=>do some (.mm false (← yj P ren 0 x) (← yj P ren 0 y))
 | .max,[x,y],_=>do some (.mm true (← yj P ren 0 x) (← yj P ren 0 y))
 | _,_,_=>none
def zOe(f:FuncId):Bool:=match P.funcs[f]? with
 | some fn=>fn.body.isNone&&fn.name=="internal/bytealg.Compare"&&(Extern.findNext fn).isNone
 | none=>false
def zKe(f:FuncId):Option Bool:=match P.funcs[f]? with
 | some fn=>if fn.body.isNone&&(Extern.findNext fn).isNone then (if fn.name=="math/bits.Add64" then some false else if fn.name=="math/bits.Sub64" then some true else none) else none
 | none=>none
def zOo(t:TypeId)(take:Bool)(xs:List Nat)(x:Operand):Option K:=match xs,x with
 | [k],.const (.slice none 0 0)=>match P.underlying t with
  | some (.slice e)=>(xx P e).map fun s=>.nilS s k
  | _=>none
 | [_],.tmp u=>some (.unpin (.tmp u))
 | [_,_],.tmp u=>some (.see (.tmp u))
 | [_,_,_],.tmp u=>match P.underlying t with
  | some (.slice e)=>(xx P e).bind fun s=>if 0<s then some (.pinS take s (.tmp u)) else none
  | _=>none
 | [_,_],.const (.slice none 0 0)=>match P.underlying t with
  | some (.slice e)=>(xx P e).map fun s=>.move (.const (.fr s [])) true
  | _=>none
 | _,_=>(yj P ren t x).map fun s=>.move s take
theorem zqG{t:TypeId}{take:Bool}{xs:List Nat}{x:Operand}{k:K}(hk:zOo P ren t take xs x=some k):(∃ sz k',x=.const (.slice none 0 0)∧k=.nilS sz k')∨(∃ s,yj P ren t x=some s∧k=.move s take)∨(∃ s,yj P ren t x=some s∧k=.unpin s)∨(∃ s,yj P ren t x=some s∧k=.see s)∨(∃ s p sz,yj P ren t x=some s∧0<sz∧k=.pinS p sz s)∨(∃ sz,x=.const (.slice none 0 0)∧k=.move (.const (.fr sz [])) true):=by
 unfold zOo at hk
 split at hk
 ·split at hk
  ·rw [Wj] at hk
   obtain ⟨s,_,rfl⟩:=hk
   exact .inl ⟨_,_,rfl,rfl⟩
  ·cases hk
 ·cases hk; exact .inr (.inr (.inl ⟨_,rfl,rfl⟩))
 ·cases hk; exact .inr (.inr (.inr (.inl ⟨_,rfl,rfl⟩)))
 ·split at hk
  ·rw [Wa] at hk
   obtain ⟨s,_,hk⟩:=hk
   split at hk
   ·rename_i hs; cases hk
    exact .inr (.inr (.inr (.inr (.inl ⟨_,_,_,rfl,hs,rfl⟩))))
   ·cases hk
  ·cases hk
 ·split at hk
  ·rw [Wj] at hk
   obtain ⟨s,_,rfl⟩:=hk
   exact .inr (.inr (.inr (.inr (.inr ⟨_,rfl,rfl⟩))))
  ·cases hk
 ·rw [Wj] at hk
  obtain ⟨s,hs,rfl⟩:=hk
  exact .inr (.inl ⟨s,hs,rfl⟩)
def zN9(xs:List Nat)(k:K):K:=match xs,k with
 | _::_,.append sz bytes s x=>.appendF sz bytes s x
 | _,k=>k
theorem zLV(xs:List Nat)(k:K):zN9 xs k=k∨∃ sz bytes s x,k=.append sz bytes s x∧zN9 xs k=.appendF sz bytes s x:=by
 unfold zN9
 split
 ·exact .inr ⟨_,_,_,_,rfl,rfl⟩
 ·exact .inl rfl
def zOd(t:TypeId)(take:Bool)(xs:List Nat)(a:Operand):Option K:=match xs with
 | []=>do some (.load (← zap P t) (← xx P t) (← yj P ren 0 a) take)
 | [_,_]=>do
  let n ← xx P t
  let s ← yj P ren 0 a
  if zap P t=some true then some (.loadS n s) else none
 | _=>match P.underlying t with
  | some (.slice e)=>do
   let sz ← xx P e
   if 0<sz∧zap P t=some false∧xx P t=some 1 then some (.pinC take sz (← yj P ren 0 a)) else none
  | _=>none
theorem zBy{t:TypeId}{take:Bool}{xs:List Nat}{a:Operand}{k:K}(hk:zOd P ren t take xs a=some k):(∃ b n s,zap P t=some b∧xx P t=some n∧yj P ren 0 a=some s∧k=.load b n s take)∨(∃ sz s,0<sz∧zap P t=some false∧xx P t=some 1∧yj P ren 0 a=some s∧k=.pinC take sz s)∨(∃ n s,zap P t=some true∧xx P t=some n∧yj P ren 0 a=some s∧k=.loadS n s):=by
 unfold zOd at hk
 split at hk
 ·simp only [Wb,Wa,Wg] at hk
  obtain ⟨b,hb,n,hn,s,hs,rfl⟩:=hk
  exact .inl ⟨b,n,s,hb,hn,hs,rfl⟩
 ·simp only [Wb,Wa] at hk
  obtain ⟨n,hn,s,hs,hk⟩:=hk
  split at hk
  ·rename_i ha; cases hk; exact .inr (.inr ⟨n,s,ha,hn,hs,rfl⟩)
  ·cases hk
 ·split at hk
  ·simp only [Wb,Wa] at hk
   obtain ⟨sz,_,hk⟩:=hk
   split at hk
   ·rename_i hc
    simp only [Wa,Wg] at hk
    obtain ⟨s,hs,rfl⟩:=hk
    exact .inr (.inl ⟨sz,s,hc.1,hc.2.1,hc.2.2,hs,rfl⟩)
   ·cases hk
  ·cases hk
def zPH(xs:List Nat)(n:Nat)(a x:Src):K:=match xs with
 | []=>.store n a x
 | xs=>.storeF n a x xs
def cK(o:Oper)(take:Bool)(xs:List Nat):Option K:=
 match o.op with
 | .move x | .assign x=>zOo P ren o.type take xs x
 | .pick c a b=>do some (.pick (← yj P ren o.type c) (← yj P ren o.type a) (← yj P ren o.type b))
 | .alloc t=>do
  let z ← zgv P t
  some (.alloc ((z.all zSc||take)&&xs.isEmpty) (frz xs z))
 | .box t x=>do
  let z ← zgv P t
  some (.box (z.all zSc||take) (← yj P ren t x))
 | .build t parts=>do
  let z ← zgv P t
  match ← P.underlying t with
  | .struct fs=>do
   let _ ← fs.toList.mapM (fun f=>(P.info? f.type).map fun i=>(f.offset,i.size))
   let ps ← zkp P ren (zu4 fs) parts.toList
   some (if take then .buildSt z ps else .build (if xs.isEmpty then z.map V.dem else z) ps)
  | .array _ e=>do
   let n ← xx P e
   let ps ← zkp P ren (fun i=>some (i*n,e)) parts.toList
   some (if take then .buildSt z ps else .build (if xs.isEmpty then z.map V.dem else z) ps)
  | _=>none
 | .buildSlice t n parts=>do
  match ← P.underlying t with
  | .slice e=>
   let z ← zgv P e
   let sz ← xx P e
   if 0<sz∧z.length=sz∧n*sz≤1000000 then some (.buildSlice sz n (z.map V.dem) (← zkp P ren (fun i=>some (i*sz,e)) parts.toList)) else none
  | _=>none
 | .load t a=>zOd P ren t take xs a
 | .store t a x=>do some (zPH xs (← xx P t) (← yj P ren 0 a) (← yj P ren t x))
 | .nilCheck x=>do some (.nilCheck (← yj P ren 0 x))
 | .binOp op t x y _=>do
  match ← P.underlying t with
  | .int _ | .string=>some (.bin op (← yj P ren t x) (← yj P ren t y))
  | .slice _=>match y with
   | .const (.slice none 0 0)=>if op==.eql||op==.neq then some (.nilT (op==.neq) (← yj P ren t x)) else none
   | _=>none
  | .bool=>if op==.eql||op==.neq then some (.eqB (op==.neq) (← yj P ren t x) (← yj P ren t y)) else none
  | .struct _ | .array _ _=>
   if (op==.eql||op==.neq)&&(zdu P 20 t).isSome&&(zdu P 20 t==xx P t)&&!(P.eqGuardType P.depth t) then some (.eqAgg (op==.neq) ((xx P t).getD 0) (← yj P ren t x) (← yj P ren t y)) else none
  | _=>none
 | .unOp op t x=>do some (.un op (← yj P ren t x))
 | .convert s d x=>do
  match ← P.underlying s,← P.underlying d with
  | .int _,.int k=>some (.conv k (← yj P ren s x))
  | .slice e,.string=>match ← P.underlying e with
   | .int .u8=>some (.toStr (← yj P ren s x))
   | _=>none
  | _,_=>none
 | .makeFunc fn first caps=>match fn with
  | .func f=>if first.size=0 then do some (.makeFunc (← ren f) (← zF6 P ren caps.toList [])) else none
  | _=>none
 | .makeSlice t l c=>do
  match ← P.underlying t with
  | .slice e=>
   let z ← zgv P e
   let sz ← xx P e
   let i ← P.info? e
   if 0<sz∧z.length=sz then some (.makeSlice sz i.bytes (z.map V.dem) (← yj P ren 0 l) (← yj P ren 0 c)) else none
  | _=>none
 | .slice t x lo hi mx=>if mx.isSome&&hi.isNone then none else do
  match ← P.underlying t with
  | .array n e=>
   let sz ← xx P e
   if 0<sz then some (.sliceA n sz (← yj P ren t x) (← zdl P ren 0 lo) (← zdl P ren 0 hi) (← zdl P ren 0 mx)) else none
  | .slice e=>
   let sz ← xx P e
   if take then
    if 0<sz&&lo.isNone&&mx.isNone&&hi.isSome then some (.sliceC sz (← yj P ren t x) (← zdl P ren 0 hi)) else none
   else if 0<sz then some (.sliceS sz (← yj P ren t x) (← zdl P ren 0 lo) (← zdl P ren 0 hi) (← zdl P ren 0 mx)) else none
  | _=>none
 | .fieldAddr t x i=>do
  match ← P.underlying t with
  | .struct fs=>
   let f ← fs[i]?
   let n ← xx P f.type
   if n=0 then none else some (.fieldAddr f.offset (← yj P ren 0 x))
  | _=>none
 | .field t x i=>do
  match ← P.underlying t with
  | .struct fs=>
   let f ← fs[i]?
   some (.field (← zap P f.type) f.offset (← xx P f.type) (← yj P ren t x))
  | _=>none
 | .indexAddr t x i=>do
  match ← P.underlying t with
  | .array n e=>some (.indexAddrA n (← xx P e) (← yj P ren 0 x) (← yj P ren 0 i))
  | .slice e=>
   let sz ← xx P e
   if 0<sz then some (.indexAddrS sz (← yj P ren t x) (← yj P ren 0 i)) else none
  | _=>none
 | .index t x i=>do
  match ← P.underlying t with
  | .array n e=>some (.indexA (← zap P e) n (← xx P e) (← yj P ren t x) (← yj P ren 0 i))
  | _=>none
 | .sliceToArrayPointer t x=>do
  match ← P.underlying t with
  | .array n e=>
   let sz ← xx P e
   if 0<sz∧0<n then some (.arrP n sz (← yj P ren 0 x)) else none
  | _=>none
 | .makeMap _ r=>if r.isNone then some .makeMap else none
 | .lookup t x i ok=>do
  match ← P.underlying t with
  | .map k e=>
   let kd ← zu0 P k
   some (.mlook kd ok (← zKk P e) (← yj P ren t x) (← yj P ren k i))
  | _=>none
 | .mapUpdate t m k x | .insert t m k x=>do
  match ← P.underlying t with
  | .map kt e=>
   let kd ← zu0 P kt
   some (.mput kd (← yj P ren t m) (← yj P ren kt k) (← yj P ren e x))
  | _=>none
 | .extract x i=>do
  let s ← yj P ren 0 x
  some (if take then .extract s i else .pull s i)
 | .call c=>match c.callee with
  | .value (.func f)=>if zOe P f then (match c.args.toList with
    | [x,y]=>do some (.cmpB (← yj P ren 0 x) (← yj P ren 0 y))
    | _=>none) else if (zKe P f).isSome then (match c.args.toList with
    | [x,y,z]=>do some (.adc (← zKe P f) (← yj P ren 0 x) (← yj P ren 0 y) (← yj P ren 0 z))
    | _=>none) else do some (.call (← ren f) (← zqF P ren (if take then 2 else 0) c.args.toList c.argTypes.toList) xs)
  | .value (.tmp t)=>do some (.callv (.tmp t) (← zqF P ren (if take then 2 else 0) c.args.toList c.argTypes.toList) xs)
  | .builtin b=>do
   let k ← ztG P ren b c.args.toList c.argTypes.toList
   some (zN9 xs k)
  | _=>none
 | _=>none
def zLB(ops:Array Oper):Option (Nat × Bool)→Option (Option (Nat × Bool))
 | none=>some none
 | some (j,want)=>do some (some (← (← ops[j]?).dst,want))
def cOp(h:Hint)(rid:Nat)(ops:Array Oper)(i:Nat)(o:Oper):Option COp:=do
 let k:=(cK P ren o (h.take.contains (rid,i)) (((h.xs.find? fun x=>x.1==rid&&x.2.1==i).map (·.2.2)).getD [])).getD .stuck
 let g ← zLB ops o.guard
 some ⟨o.dst,h.pin.contains (rid,i),g,k⟩
def zAA(h:Hint)(rid:Nat)(ops:Array Oper):List Oper→Nat→Option (List COp)
 | [],_=>some []
 | o::rest,i=>do
  let c ← cOp P ren h rid ops i o
  pure (c::(← zAA h rid ops rest (i+1)))
end
def zdX(a b:List Nat):Bool:=a.all (fun x=>!b.contains x)
def Src.tmps:Src→List Nat
 | .tmp t=>[t]
 | .const _=>[]
def Src.tmpsO:Option Src→List Nat
 | some s=>s.tmps
 | none=>[]
def xt:K→List Nat
 | .move x _ | .nilT _ x | .box _ x | .load _ _ x _ | .nilCheck x | .un _ x | .conv _ x | .toStr x | .see x | .fieldAddr _ x | .field _ _ _ x | .lenS x | .lenT x | .lenM x | .extract x _ | .pull x _ | .arrP _ _ x | .unpin x | .pinC _ _ x | .loadS _ x | .pinS _ _ x=>x.tmps
 | .pick c a b | .adc _ c a b=>c.tmps++a.tmps++b.tmps
 | .alloc .. | .lenA _ | .makeMap | .nilS .. | .stuck=>[]
 | .mlook _ _ _ x k=>x.tmps++k.tmps
 | .mput _ x k v=>x.tmps++k.tmps++v.tmps
 | .build _ ps | .buildSt _ ps | .buildSlice _ _ _ ps=>ps.flatMap (fun p=>p.2.2.tmps)
 | .store _ a x | .cmpB a x | .bin _ a x | .eqAgg _ _ a x | .eqB _ a x | .makeSlice _ _ _ a x | .indexAddrA _ _ a x | .indexAddrS _ a x | .indexA _ _ _ a x | .append _ _ a x | .appendF _ _ a x | .appendZ _ _ _ a x | .copy _ a x | .mm _ a x | .storeF _ a x _=>a.tmps++x.tmps
 | .sliceA _ _ x l h m | .sliceS _ x l h m=>x.tmps++Src.tmpsO l++Src.tmpsO h++Src.tmpsO m
 | .sliceC _ x h=>x.tmps++Src.tmpsO h
 | .clear _ _ x=>x.tmps
 | .call _ xs _=>xs.flatMap (fun p=>p.1.tmps)
 | .callv f xs _=>f.tmps++xs.flatMap (fun p=>p.1.tmps)
 | .makeFunc _ xs=>xs.flatMap Src.tmps
def zL(o:COp):List Nat:=xt o.k++(match o.guard with | some (j,_)=>[j] | none=>[])
def zaj:K→List Nat
 | .move x true=>x.tmps
 | .store _ _ x | .extract x _ | .append _ _ x _ | .appendF _ _ x _ | .appendZ _ _ _ x _ | .unpin x | .pinS _ _ x=>x.tmps
 | _=>[]
def zfA(a b:COp):Bool:=
 zdX (zaj a.k++a.dst.toList) (zL b++zaj b.k++b.dst.toList)&&zdX (zaj b.k++b.dst.toList) (zL a++zaj a.k++a.dst.toList)
def zpL(o:COp):List Nat:=zaj o.k++o.dst.toList
def Fl.roots(f:Fl):List Nat:=f.root.toList++f.w
def zOh:K→Bool
 | .move ..=>true
 | _=>false
def zpj:K→Bool
 | .load false _ _ true=>true
 | _=>false
def zj8(r:Option Nat)(w:List Nat):Bool:=match r with
 | some r=>w.contains r
 | none=>false
def zpI(a b:COp × Fl):Bool:=zfA a.1 b.1&&zdX (zpL a.1++zpL b.1) (a.2.roots++b.2.roots) &&
 ((!a.2.l&&!b.2.l&&(yy a.1.k||yy b.1.k||(a.2.q&&b.2.q&&!a.2.s&&!b.2.s)||(zj8 a.2.root b.2.w&&!a.2.s&&!b.2.s)||(zj8 b.2.root a.2.w&&!a.2.s&&!b.2.s)||a.2.s||b.2.s))||yy a.1.k||yy b.1.k ||
  (a.2.l&&b.2.l&&((zH7 a.1.k&&zH7 b.1.k)||(zag a.1.k&&zpj b.1.k)||(zpj a.1.k&&zag b.1.k)||zOh a.1.k||zOh b.1.k||zj8 a.2.root b.2.w||zj8 b.2.root a.2.w||(a.2.nw&&zj8 (zx0 a.1) b.2.wn)||(b.2.nw&&zj8 (zx0 b.1) a.2.wn))))
def zwM(a b:COp × Fl):Bool:=match a.1,b.1 with
 | ⟨some da,false,none,.move (.tmp x) true⟩,⟨some db,false,none,.move (.tmp y) false⟩=>
  Wf x y&&!(Wf da x)&&!(Wf db x)&&!(Wf da db)&&zdX [da,x,db] a.2.roots&&!b.2.l&&!b.2.s&&!b.2.q&&b.2.root.isNone&&b.2.w.isEmpty&&!a.2.tk&&!b.2.tk
 | _,_=>false
def zGI(a b:COp × Fl):Bool:=match a.1,b.1 with
 | ⟨some _,false,none,.load false _ _ true⟩,⟨some _,false,none,.load false _ _ true⟩=>
  zfA a.1 b.1&&zdX (zpL a.1++zpL b.1) (a.2.roots++b.2.roots)&&a.2.l&&b.2.l&&a.2.tk&&b.2.tk
 | _,_=>false
def zzA(a b:COp × Fl):Bool:=zwM a b||zwM b a||zGI a b||zpI a b
def zB0(before:Array Nat)(ks:List (COp × Fl)):Bool:=
 (Wy ks.length).all fun j=>(Wy j).all fun i=>
  (before.getD j 0).testBit i||match ks[i]?,ks[j]? with | some a,some b=>zzA a b | _,_=>false
def zAc(ops:Array Oper):Bool:=ops.toList.zipIdx.all fun (o,i)=>o.after.all fun e=>!Region.binds .any e||decide (e.on<i)
def zFi(rt:Option Nat)(ks:List COp):Nat→Nat→Option Nat
 | 0,_=>none
 | n+1,p=>match ks.find? (fun o=>o.dst==some p) with
  | none=>some p
  | some o=>match o.k with
   | .indexAddrS _ (.tmp u) _=>match ks.find? (fun o=>o.dst==some u) with
    | none=>some u
    | some o=>if (match o.k with | .load false _ _ false=>true | _=>false) then rt else none
   | .fieldAddr _ (.tmp u)=>zFi rt ks n u
   | .nilCheck (.tmp u)=>zFi rt ks n u
   | .move (.tmp u) false=>zFi rt ks n u
   | _=>none
def zmm(rt:Option Nat)(ks:List COp)(o:COp):Option Nat:=match o.k with
 | .load _ _ (.tmp p) _ | .store _ (.tmp p) _=>(zFi rt ks 5 p).bind fun r=>if ks.any (fun k=>(zpL k).contains r) then none else some r
 | _=>none
def zGy:K→Bool
 | .call .. | .callv ..=>true
 | _=>false
def zm8:K→Bool
 | .alloc .. | .box .. | .buildSlice .. | .makeSlice .. | .append .. | .extract ..=>true
 | _=>false
def zXI:K→Bool
 | .load _ _ (.tmp _) _=>true
 | _=>false
def zwl(ks:List COp)(o:COp):Bool:=match o.k with
 | .store _ (.tmp p) _=>o.dst.isNone&&ks.any (fun b=>b.dst==some p&&zm8 b.k)
 | _=>false
def zTG(rt:Option Nat)(ks:List COp)(o:COp):Bool:=zGy o.k||zm8 o.k||zOh o.k||zXI o.k||zSb o.k||zwl ks o||(zmm rt ks o).isSome
def zKV(before:Array Nat)(ks:List COp)(o:COp)(i:Nat):List COp:=
 (ks.zipIdx.filter fun (b,j)=>i != j&&!((before.getD (max i j) 0).testBit (min i j))&&!(yy o.k||yy b.k)).map (·.1)
def zg5(rt:Option Nat)(before:Array Nat)(ks:List COp)(loc:Bool):List (COp × Fl):=
 ks.zipIdx.map fun (o,i)=>
  let ps:=zKV before ks o i
  (o,match ps with
   | []=>q0
   | ps=>if loc then (fun (f:Fl)=>if zpj o.k&&ps.any (fun b=>zpj b.k) then { f with tk:=true } else f) (match zmm rt ks o with
     | some r=>ql r ((ps.filter (fun b=>(zmm rt ks b) != some r)).filterMap (zmm rt ks)).eraseDups ((ps.filter (fun b=>zm8 b.k||zwl ks b)).filterMap zx0).eraseDups
     | none=>if zm8 o.k||zwl ks o then qn (ps.filterMap (zmm rt ks)).eraseDups ((ps.filter (fun b=>zm8 b.k||zwl ks b)).filterMap zx0).eraseDups
      else qc (ps.filterMap (zmm rt ks)).eraseDups ((ps.filter (fun b=>zm8 b.k||zwl ks b)).filterMap zx0).eraseDups)
    else (match (if zag o.k&&!(ps.all fun b=>zag b.k) then zmm rt ks o else none) with
     | some r=>{ q1 with root:=some r }
     | none=>if (zGy o.k&&ps.all (fun b=>zag b.k&&(zmm rt ks b).isSome))||(zm8 o.k&&ps.all (fun b=>zGy b.k||(zag b.k&&(zmm rt ks b).isSome))) then { q0 with w:=(ps.filterMap (zmm rt ks)).eraseDups }
      else if zGy o.k&&ps.any (fun b=>zm8 b.k) then q2 else q1))
def zdQ(rt:Option Nat)(before:Array Nat)(ks:List COp):List (COp × Fl):=
 let loc:=ks.zipIdx.all fun (o,i)=>(zKV before ks o i).isEmpty||zTG rt ks o
 if loc&&zB0 before (zg5 rt before ks true) then zg5 rt before ks true else zg5 rt before ks false
def CC.msk(c:CC):Msk→CC
 | none=>c
 | some (kt,kb)=>.seq c (.mask kt kb)
def CC.pre(c:CC):Msk→CC
 | none=>c
 | some (kt,kb)=>.seq (.mask kt kb) c
def zNy(s:Src):List COp→Bool
 | []=>false
 | [⟨some d,_,_,.nilT _ _⟩]=>match s with
  | .tmp t=>Wf t d
  | _=>false
 | _::rest=>zNy s rest
def zQE:CC→Option (CC × Src × CC)
 | .seq (.reg ops) (.cond s x .skip)=>if zNy s ops then some (.reg ops,s,x) else none
 | _=>none
def zFN(a b:CC):CC:=match zQE a with
 | some (p,s,x)=>.fork p s x b
 | none=>.seq a b
def zaz(P:Program)(ren:Rn)(h:Hint):Code→List Msk→Option (CC × List Msk)
 | .skip,ms=>some (.skip,ms)
 | .region id ops draw,ms=>do
  let cs ← zAA P ren h id ops ops.toList 0
  if draw then (if zAc ops&&zB0 (Region.before ops) (zdQ (h.rt.lookup id) (Region.before ops) cs) then some (.dreg ((h.fz.lookup id).getD []) (zdQ (h.rt.lookup id) (Region.before ops) cs),ms) else none) else (match h.fz.lookup id with
   | some fz=>some (.dreg fz (cs.map fun c=>(c,q0)),ms)
   | none=>some (.reg cs,ms))
 | .seq a b,ms=>do
  let (a',ms) ← zaz P ren h a ms
  let (b',ms) ← zaz P ren h b ms
  some (zFN a' b',ms)
 | .cond c a b,m::ms=>do
  let s ← yj P ren 0 c
  let (a',ms) ← zaz P ren h a ms
  let (b',ms) ← zaz P ren h b ms
  some (CC.msk (.cond s a' b') m,ms)
 | .block id a,m::ms=>do
  let (a',ms) ← zaz P ren h a ms
  some (CC.msk (.block id a') m,ms)
 | .loop a,some (kt,kb)::ms=>do
  let (a',ms) ← zaz P ren h a ms
  some (.loop kt kb a',ms)
 | .exit id,m::ms=>some (CC.pre (.exit id) m,ms)
 | .ret,m::ms=>some (CC.pre .ret m,ms)
 | _,_=>none
def zcm(P:Program)(rp:Bool):List ResultVar→Option (List RV)
 | []=>some []
 | .tmp t::rest=>do some ((if rp then .tmpP t else .tmp t)::(← zcm P rp rest))
 | .cell a t::rest=>do some (.cell a (← zap P t) (← xx P t)::(← zcm P rp rest))
def zv0(P:Program)(ren:Rn)(h:Hint)(f:FuncId):Option CF:=do
 let fn ← P.funcs[f]?
 let body ← fn.body
 let (c,_) ← zaz P ren h body h.masks
 let rs ← zcm P h.rp fn.results.toList
 if fn.params.size+fn.nfree≤fn.ntmps then some ⟨fn.ntmps,rs.map (RV.boxed h.cs h.rp),c⟩ else none
end
section
theorem zc6(k o i:Nat):(⟨k,o,none⟩:Addr).add i=⟨k,o+i,none⟩:=by
 unfold Addr.add; split <;> simp_all
inductive RepP (ren:Rn) (w:World) (Wr:Nat→Nat→Prop):V→Value→Prop
 | sc (v:Value) (h:v.oneCell'=true):RepP ren w Wr (.sc v) v
 | agg (cs:List V) (us:List Value) (hl:cs.length=us.length) (h:∀ (i:Nat) (c:V) (u:Value),cs[i]?=some c→us[i]?=some u→RepP ren w Wr c u)
   (h1:∀ u∈us,u.oneCell'=true):RepP ren w Wr (.agg cs) (.agg us.toArray)
 | sl (sz:Nat) (es:Ls) (A:Option Addr) (c:Nat) (f:Nat→Value) (hc:es.length≤c) (hsz:∀ e∈es,e.length=sz) (k o:Nat)
   (hA:es≠[]→A=some ⟨k,o,none⟩) (hcell:∀ (i:Nat) (v:V),es.flatten[i]?=some v→¬ Wr k (o+i)∧w.cell? ⟨k,o+i,none⟩=some (f i))
   (h1:∀ (i:Nat) (v:V),es.flatten[i]?=some v→(f i).oneCell'=true)
   (h:∀ (i:Nat) (v:V),es.flatten[i]?=some v→RepP ren w Wr v (f i)):RepP ren w Wr (.sl sz es) (.slice A es.length c)
 | ful (sz:Nat) (es:Ls) (A:Option Addr) (f:Nat→Value) (hsz:∀ e∈es,e.length=sz) (k o:Nat)
   (hA:es≠[]→A=some ⟨k,o,none⟩) (hcell:∀ (i:Nat) (v:V),es.flatten[i]?=some v→¬ Wr k (o+i)∧w.cell? ⟨k,o+i,none⟩=some (f i))
   (h1:∀ (i:Nat) (v:V),es.flatten[i]?=some v→(f i).oneCell'=true)
   (h:∀ (i:Nat) (v:V),es.flatten[i]?=some v→RepP ren w Wr v (f i)) (hon:es=[]∨zFk=true):RepP ren w Wr (.gs sz es) (.slice A es.length es.length)
 | fn (f:FuncId) (g:Nat) (h:ren f=some g):RepP ren w Wr (.fn g []) (.func (.func f) #[] #[])
theorem RepP.nil{ren:Rn}{w:World}{Wr:Nat→Nat→Prop}(sz:Nat)(A:Option Addr):RepP ren w Wr (.gs sz []) (.slice A 0 0):=
 .ful sz [] A (fun _=>undef) (by simp) 0 0 (by simp) (by simp) (by simp) (by simp) (.inl rfl)
theorem RepP.mono{ren:Rn}{w w':World}{Wr Wr':Nat→Nat→Prop}
  (H:∀ k o u,¬ Wr k o→w.cell? ⟨k,o,none⟩=some u→¬ Wr' k o∧w'.cell? ⟨k,o,none⟩=some u) {v:V} {u:Value} (h:RepP ren w Wr v u):RepP ren w' Wr' v u:=by
 induction h with
 | sc v h=>exact .sc v h
 | agg cs us hl _ h1 ih=>exact .agg cs us hl ih h1
 | sl sz es A c f hc hsz k o hA hcell h1 _ ih=>exact .sl sz es A c f hc hsz k o hA (fun i v hv=>H _ _ _ (hcell i v hv).1 (hcell i v hv).2) h1 ih
 | ful sz es A f hsz k o hA hcell h1 _ hon ih=>exact .ful sz es A f hsz k o hA (fun i v hv=>H _ _ _ (hcell i v hv).1 (hcell i v hv).2) h1 ih hon
 | fn f g h=>exact .fn f g h
inductive Loc where
 | slot (t j:Nat)
 | cell (id j:Nat)
inductive Ow where
 | no
 | gs (l:Loc) (h:Nat)
 | blk (id:Nat)
def wr(U:Nat→Nat→Prop)(ω:Nat→Ow)(k o:Nat):Prop:=
 U k o∨match ω k with | .no=>False | .gs _ h=>h≤o | .blk _=>True
structure En where
 w:World
 Wr:Nat→Nat→Prop
 ω:Nat→Ow
 μ:Nat→Nat
 bl:Nat→Option Nat
def yA(w:World)(k:Nat):Nat:=match w.heap[k]? with | some (.cells arr _ _)=>arr.size | _=>0
def yr(b:List B)(id:Nat):Option Nat:=match b[id]? with | some (.live _ cs)=>some cs.length | some (.fz cs)=>some cs.length | some (.mp _)=>some 0 | some (.dead n)=>some n | _=>none
def Loc.sub:Loc→Nat→Loc
 | .slot t _,j=>.slot t (j+1)
 | .cell id j,_=>.cell id j
def Loc.hd:Loc→Loc
 | .slot t _=>.slot t 0
 | l=>l
theorem Loc.hd_sub(l:Loc)(j:Nat):(l.sub j).hd=l.hd:=by cases l <;> rfl
def OwnAt(E:En)(v:V)(u:Value):Prop:=
 ∃ (id off len sz c L:Nat) (A:Option Addr),v=.own id off len sz∧u=.slice A len c∧E.bl id=some L∧off+len*sz≤L∧len≤c∧(L=0→sz=0∨c=0) ∧
  ((A=some ⟨E.μ id,off,none⟩∧off+c*sz≤yA E.w (E.μ id))∨(len=0∧c=0))
inductive Rep (ren:Rn) (E:En):Loc→V→Value→Prop
 | pure {l:Loc} {v:V} {u:Value} (h:RepP ren E.w E.Wr v u):Rep ren E l v u
 | gs {l:Loc} (sz:Nat) (es:Ls) (β c:Nat) (arr:Array Value) (T:TypeId) (f:Nat→Value) (hω:E.ω β=.gs l (es.length*sz))
   (hb:E.w.heap[β]?=some (.cells arr T (0,0))) (hc:c*sz≤arr.size) (hn:es.length≤c) (hsz:∀ e∈es,e.length=sz)
   (hcell:∀ (i:Nat) (v:V),es.flatten[i]?=some v→arr[i]?=some (f i)) (h1:∀ (i:Nat) (v:V),es.flatten[i]?=some v→(f i).oneCell'=true)
   (h:∀ (i:Nat) (v:V),es.flatten[i]?=some v→RepP ren E.w E.Wr v (f i)):Rep ren E l (.gs sz es) (.slice (some ⟨β,0,none⟩) es.length c)
 | fr {l:Loc} (sz:Nat) (es:Ls) (β c:Nat) (arr:Array Value) (T:TypeId) (f:Nat→Value) (hω:E.ω β=.gs l 0)
   (hb:E.w.heap[β]?=some (.cells arr T (0,0))) (hc:c*sz≤arr.size) (hn:es.length≤c∧(es=[]→sz=0∨c=0)) (hsz:∀ e∈es,e.length=sz)
   (hcell:∀ (i:Nat) (v:V),es.flatten[i]?=some v→arr[i]?=some (f i)) (h1:∀ (i:Nat) (v:V),es.flatten[i]?=some v→(f i).oneCell'=true)
   (h:∀ (i:Nat) (v:V),es.flatten[i]?=some v→RepP ren E.w E.Wr v (f i)):Rep ren E l (.fr sz es) (.slice (some ⟨β,0,none⟩) es.length c)
 | fr0 {l:Loc} (sz:Nat) (A:Option Addr):Rep ren E l (.fr sz []) (.slice A 0 0)
 | bx {l:Loc} (p:Bool) (cs:List V) (β:Nat) (arr:Array Value) (T:TypeId) (f:Nat→Value) (hω:E.ω β=.gs l 0)
   (hb:E.w.heap[β]?=some (.cells arr T (0,0))) (hn:cs.length≤arr.size)
   (hcell:∀ (i:Nat) (v:V),cs[i]?=some v→arr[i]?=some (f i)) (h1:∀ (i:Nat) (v:V),cs[i]?=some v→(f i).oneCell'=true)
   (h:∀ (i:Nat) (v:V),cs[i]?=some v→RepP ren E.w E.Wr v (f i)):Rep ren E l (.bx p cs) (.pointer (some ⟨β,0,none⟩))
 | own {l:Loc} (id off len sz c L:Nat) (A:Option Addr) (hL:E.bl id=some L) (hl:off+len*sz≤L) (hc:len≤c∧(L=0→sz=0∨c=0))
   (hA:(A=some ⟨E.μ id,off,none⟩∧off+c*sz≤yA E.w (E.μ id))∨(len=0∧c=0)):Rep ren E l (.own id off len sz) (.slice A len c)
 | cut {l:Loc} (id off len cap sz c L:Nat) (A:Option Addr) (hL:E.bl id=some L) (hl:off+cap*sz≤L) (hc:len≤cap∧cap≤c∧(L=0→sz=0∨c=0))
   (hA:(A=some ⟨E.μ id,off,none⟩∧off+c*sz≤yA E.w (E.μ id))∨(cap=0∧c=0)):Rep ren E l (.cut id off len cap sz) (.slice A len c)
 | ptr {l:Loc} (id off L:Nat) (hL:E.bl id=some L):Rep ren E l (.ptr id off) (.pointer (some ⟨E.μ id,off,none⟩))
 | fp {l:Loc} (n:Nat) (cs:List V) (k o:Nat) (f:Nat→Value) (hl:cs.length=n)
   (hcell:∀ (i:Nat) (v:V),cs[i]?=some v→¬ E.Wr k (o+i)∧E.w.cell? ⟨k,o+i,none⟩=some (f i))
   (h1:∀ (i:Nat) (v:V),cs[i]?=some v→(f i).oneCell'=true)
   (h:∀ (i:Nat) (v:V),cs[i]?=some v→RepP ren E.w E.Wr v (f i)):Rep ren E l (.fp n cs) (.pointer (some ⟨k,o,none⟩))
 | fn {l:Loc} (f:FuncId) (g:Nat) (caps:List V) (us:List Value) (hr:ren f=some g) (hl:caps.length=us.length)
   (h:∀ (i:Nat) (c:V),caps[i]?=some c→∃ id off L,c=.ptr id off∧E.bl id=some L∧us[i]?=some (.pointer (some ⟨E.μ id,off,none⟩))):Rep ren E l (.fn g caps) (.func (.func f) #[] us.toArray)
 | tup {l:Loc} (vs:List V) (us:List Value) (hl:vs.length=us.length)
   (h:∀ (j:Nat) (v:V) (u:Value),vs[j]?=some v→us[j]?=some u→Rep ren E (l.sub j) v u):Rep ren E l (.tup vs) (.tuple us.toArray)
 | ub {l:Loc} (b:Bool):Rep ren E l .ub (.bool b)
 | mp {l:Loc} (id L:Nat) (hL:E.bl id=some L):Rep ren E l (.mp id) (.map (some (E.μ id)))
 | st {l:Loc} (cs:List V) (us:List Value) (hl:cs.length=us.length) (h:∀ (i:Nat) (c:V) (u:Value),cs[i]?=some c→us[i]?=some u→RepP ren E.w E.Wr c u∨OwnAt E c u)
   (h1:∀ u∈us,u.oneCell'=true):Rep ren E l (.st cs) (.agg us.toArray)
 | junk {l:Loc} {u:Value}:Rep ren E l .junk u
structure Fr (E E':En):Prop where
 st:∀ k o u,¬ E.Wr k o→E.w.cell? ⟨k,o,none⟩=some u→¬ E'.Wr k o∧E'.w.cell? ⟨k,o,none⟩=some u
 id:∀ id L,E.bl id=some L→E'.bl id=some L∧E'.μ id=E.μ id∧yA E.w (E.μ id)≤yA E'.w (E.μ id)
theorem OwnAt.frame{E E':En}(F:Fr E E'){v:V}{u:Value}(h:OwnAt E v u):OwnAt E' v u:=by
 obtain ⟨id,off,len,sz,c,L,A,e1,e2,hL,hl,hc,hz,hA⟩:=h
 obtain ⟨f1,f2,f3⟩:=F.id id L hL
 refine ⟨id,off,len,sz,c,L,A,e1,e2,f1,hl,hc,hz,?_⟩
 rcases hA with ⟨e,he⟩ | h
 ·exact .inl ⟨by rw [f2]; exact e,by rw [f2]; omega⟩
 ·exact .inr h
theorem OwnAt.rep{ren:Rn}{E:En}{v:V}{u:Value}(h:OwnAt E v u)(l:Loc):Rep ren E l v u:=by
 obtain ⟨id,off,len,sz,c,L,A,rfl,rfl,hL,hl,hc,hz,hA⟩:=h
 exact .own id off len sz c L A hL hl ⟨hc,hz⟩ hA
theorem Rep.ownAt{ren:Rn}{E:En}{l:Loc}{id off len sz:Nat}{u:Value}(h:Rep ren E l (.own id off len sz) u):OwnAt E (.own id off len sz) u:=by
 cases h with
 | pure h=>cases h
 | own _ _ _ _ c L A hL hl hc hA=>exact ⟨id,off,len,sz,c,L,A,rfl,rfl,hL,hl,hc.1,hc.2,hA⟩
theorem Rep.frame{ren:Rn}{E E':En}(F:Fr E E'){l:Loc}{v:V}{u:Value}(h:Rep ren E l v u)
  (hg:∀ (l':Loc) (β h:Nat),l'.hd=l.hd→E.ω β=.gs l' h→E'.ω β=.gs l' h∧E'.w.heap[β]?=E.w.heap[β]?):Rep ren E' l v u:=by
 induction h with
 | pure h=>exact .pure (h.mono F.st)
 | @gs l sz es β c arr T f hω hb hc hn hsz hcell h1 h=>
  obtain ⟨g1,g2⟩:=hg _ _ _ rfl hω
  exact .gs sz es β c arr T f g1 (by rw [g2]; exact hb) hc hn hsz hcell h1 (fun i v hv=>(h i v hv).mono F.st)
 | @fr l sz es β c arr T f hω hb hc hn hsz hcell h1 h=>
  obtain ⟨g1,g2⟩:=hg _ _ _ rfl hω
  exact .fr sz es β c arr T f g1 (by rw [g2]; exact hb) hc hn hsz hcell h1 (fun i v hv=>(h i v hv).mono F.st)
 | fr0 sz A=>exact .fr0 sz A
 | ub b=>exact .ub b
 | mp id L hL=>
  obtain ⟨f1,f2,f3⟩:=F.id id L hL
  rw [← f2]
  exact .mp id L f1
 | @bx l p cs β arr T f hω hb hn hcell h1 h=>
  obtain ⟨g1,g2⟩:=hg _ _ _ rfl hω
  exact .bx p cs β arr T f g1 (by rw [g2]; exact hb) hn hcell h1 (fun i v hv=>(h i v hv).mono F.st)
 | own id off len sz c L A hL hl hc hA=>
  obtain ⟨f1,f2,f3⟩:=F.id id L hL
  refine .own id off len sz c L A f1 hl hc ?_
  rcases hA with ⟨e,he⟩ | h
  ·exact .inl ⟨by rw [f2]; exact e,by rw [f2]; omega⟩
  ·exact .inr h
 | cut id off len cap sz c L A hL hl hc hA=>
  obtain ⟨f1,f2,f3⟩:=F.id id L hL
  refine .cut id off len cap sz c L A f1 hl hc ?_
  rcases hA with ⟨e,he⟩ | h
  ·exact .inl ⟨by rw [f2]; exact e,by rw [f2]; omega⟩
  ·exact .inr h
 | ptr id off L hL=>
  obtain ⟨f1,f2,f3⟩:=F.id id L hL
  rw [← f2]
  exact .ptr id off L f1
 | fp n cs k o f hl hcell h1 h=>exact .fp n cs k o f hl (fun i v hv=>F.st _ _ _ (hcell i v hv).1 (hcell i v hv).2) h1 (fun i v hv=>(h i v hv).mono F.st)
 | fn f g caps us hr hl h=>
  refine .fn f g caps us hr hl (fun i c hc=>?_)
  obtain ⟨id,off,L,e1,e2,e3⟩:=h i c hc
  obtain ⟨f1,f2,f3⟩:=F.id id L e2
  exact ⟨id,off,L,e1,f1,by rw [f2]; exact e3⟩
 | @tup l vs us hl h ih=>
  refine .tup vs us hl (fun j v u hv hu=>ih j v u hv hu (fun l' β h he hω=>hg l' β h (by rw [he,Loc.hd_sub]) hω))
 | st cs us hl h h1=>exact .st cs us hl (fun i c u hc hu=>(h i c u hc hu).imp (fun q=>q.mono F.st) (fun q=>q.frame F)) h1
 | junk=>exact .junk
theorem yV{es:Ls}{sz:Nat}(h:∀ e∈es,e.length=sz):es.flatten.length=es.length*sz:=by
 induction es with
 | nil=>simp
 | cons e es ih=>
  have h1:=h e (by simp)
  have h2:=ih (fun x hx=>h x (by simp [hx]))
  simp only [List.flatten_cons,Wm,h1,h2,List.length_cons]
  rw [Nat.add_mul]; omega
theorem Rep.frame0{ren:Rn}{E E':En}(F:Fr E E'){v:V}{u:Value}(H0:∀ l,Rep ren E l v u)(hv:∀ x xs,v≠.tup (x::xs))(l:Loc):Rep ren E' l v u:=by
 have h1:=H0 (.slot 0 0)
 have h2:=H0 (.slot 1 0)
 clear H0
 cases h1 with
 | pure h=>exact .pure (h.mono F.st)
 | gs sz es β c arr T f hω hb hc hn hsz hcell hh h=>
  cases h2 with
  | pure h=>exact .pure (h.mono F.st)
  | gs _ _ _ _ arr' T' f' hω'=>rw [hω] at hω'; cases hω'
 | fr sz es β c arr T f hω hb hc hn hsz hcell hh h=>
  cases h2 with
  | pure h=>exact .pure (h.mono F.st)
  | fr _ _ _ _ arr' T' f' hω'=>rw [hω] at hω'; cases hω'
  | fr0 _ _=>exact .fr0 _ _
 | fr0 sz A=>exact .fr0 sz A
 | ub b=>exact .ub b
 | mp id L hL=>
  obtain ⟨f1,f2,f3⟩:=F.id id L hL
  rw [← f2]
  exact .mp id L f1
 | bx p cs β arr T f hω hb hn hcell hh h=>
  cases h2 with
  | pure h=>exact .pure (h.mono F.st)
  | bx _ _ _ arr' T' f' hω'=>rw [hω] at hω'; cases hω'
 | own id off len sz c L A hL hl hc hA=>
  obtain ⟨f1,f2,f3⟩:=F.id id L hL
  refine .own id off len sz c L A f1 hl hc ?_
  rcases hA with ⟨e,he⟩ | h
  ·exact .inl ⟨by rw [f2]; exact e,by rw [f2]; omega⟩
  ·exact .inr h
 | cut id off len cap sz c L A hL hl hc hA=>
  obtain ⟨f1,f2,f3⟩:=F.id id L hL
  refine .cut id off len cap sz c L A f1 hl hc ?_
  rcases hA with ⟨e,he⟩ | h
  ·exact .inl ⟨by rw [f2]; exact e,by rw [f2]; omega⟩
  ·exact .inr h
 | ptr id off L hL=>
  obtain ⟨f1,f2,f3⟩:=F.id id L hL
  rw [← f2]
  exact .ptr id off L f1
 | fp n cs k o f hl hcell q1 q2=>exact .fp n cs k o f hl (fun i v hv=>F.st _ _ _ (hcell i v hv).1 (hcell i v hv).2) q1 (fun i v hv=>(q2 i v hv).mono F.st)
 | fn f g caps us hr hl q2=>
  refine .fn f g caps us hr hl (fun i c hc=>?_)
  obtain ⟨id,off,L,e1,e2,e3⟩:=q2 i c hc
  obtain ⟨f1,f2,f3⟩:=F.id id L e2
  exact ⟨id,off,L,e1,f1,by rw [f2]; exact e3⟩
 | tup vs us hl h=>
  cases vs with
  | nil=>
   cases us with
   | nil=>exact .tup [] [] rfl (by simp)
   | cons x xs=>simp at hl
  | cons x xs=>exact absurd rfl (hv x xs)
 | st cs us hl h _h1=>exact .st cs us hl (fun i c u hc hu=>(h i c u hc hu).imp (fun q=>q.mono F.st) (fun q=>q.frame F)) _h1
 | junk=>exact .junk
theorem Rep.dem{ren:Rn}{E:En}(hU:∀ β l h i,E.ω β=.gs l h→i<h→¬ E.Wr β i){l:Loc}{v:V}{u:Value}(h:Rep ren E l v u)(l':Loc):Rep ren E l' v.dem u:=by
 cases h with
 | pure h=>
  cases h with
  | sc _ h=>exact .pure (.sc _ h)
  | agg cs us hl h h1=>exact .pure (.agg cs us hl h h1)
  | sl sz es A c f hc hsz k o hA hcell h1 h=>exact .pure (.sl sz es A c f hc hsz k o hA hcell h1 h)
  | ful sz es A f hsz k o hA hcell h1 h hon=>exact .pure (.sl sz es A es.length f (Wq _) hsz k o hA hcell h1 h)
  | fn f g h=>exact .pure (.fn f g h)
 | gs sz es β c arr T f hω hb hc hn hsz hcell h1 h=>
  refine .pure (.sl sz es _ c f hn hsz β 0 (fun _=>rfl) (fun i v hv=>⟨?_,?_⟩) h1 h)
  ·have hi:i<es.flatten.length:=(Wi.1 hv).1
   rw [yV hsz] at hi
   rw [WB]
   exact hU β _ _ i hω hi
  ·rw [WB,cell_of_row _ _ _ _ _ _ hb]; exact hcell i v hv
 | fr sz es β c arr T f hω hb hc hn hsz hcell h1 h=>exact .junk
 | fr0 sz A=>exact .junk
 | ub b=>exact .ub b
 | mp id L hL=>exact .mp id L hL
 | bx p cs β arr T f hω hb hn hcell h1 h=>exact .junk
 | own id off len sz c L A hL hl hc hA=>exact .own id off len sz c L A hL hl hc hA
 | cut id off len cap sz c L A hL hl hc hA=>exact .cut id off len cap sz c L A hL hl hc hA
 | ptr id off L hL=>exact .ptr id off L hL
 | fp n cs k o f hl hcell h1 h=>exact .fp n cs k o f hl hcell h1 h
 | fn f g caps us hr hl h=>exact .fn f g caps us hr hl h
 | tup vs us hl h=>
  cases vs with
  | nil=>
   cases us with
   | nil=>exact .tup [] [] rfl (by simp)
   | cons x xs=>simp at hl
  | cons x xs=>exact .junk
 | st cs us hl h h1=>exact .st cs us hl h h1
 | junk=>exact .junk
theorem RepP.cells{ren:Rn}{w:World}{Wr:Nat→Nat→Prop}{v:V}{u:Value}(h:RepP ren w Wr v u) :
  v.cells.length=u.cells.size∧(∀ (i:Nat) (c:V),v.cells[i]?=some c→∃ x,u.cells[i]?=some x∧x.oneCell'=true∧RepP ren w Wr c x):=by
 have one:∀ (v:V) (u:Value),v.cells=[v]→u.cells=#[u]→u.oneCell'=true→RepP ren w Wr v u →
   v.cells.length=u.cells.size∧(∀ (i:Nat) (c:V),v.cells[i]?=some c→∃ x,u.cells[i]?=some x∧x.oneCell'=true∧RepP ren w Wr c x):=by
  intro v u e1 e2 e3 e4
  rw [e1,e2]
  refine ⟨rfl,fun i c hc=>?_⟩
  cases i with
  | zero=>simp at hc; subst hc; exact ⟨u,by simp,e3,e4⟩
  | succ i=>simp at hc
 cases h with
 | sc _ h=>exact one (.sc u) u rfl (by cases u <;> first | rfl | exact absurd h (by simp [Value.oneCell'])) h (.sc u h)
 | agg cs us hl h h1=>
  refine ⟨by simpa [V.cells,Value.cells] using hl,fun i c hc=>?_⟩
  have hi:i<us.length:=by rw [← hl]; exact (Wi.1 hc).1
  exact ⟨us[i],by simp [Value.cells,hi],h1 _ (List.getElem_mem hi),h i c _ hc (Wc hi)⟩
 | sl sz es A c f hc hsz k o hA hcell h1 h=>exact one _ _ rfl rfl rfl (.sl sz es A c f hc hsz k o hA hcell h1 h)
 | ful sz es A f hsz k o hA hcell h1 h hon=>exact one _ _ rfl rfl rfl (.ful sz es A f hsz k o hA hcell h1 h hon)
 | fn f g h=>exact one _ _ rfl rfl rfl (.fn f g h)
theorem Rep.plain{ren:Rn}{E:En}(hU:∀ β l h i,E.ω β=.gs l h→i<h→¬ E.Wr β i){l:Loc}{v v':V}{u:Value}(h:Rep ren E l v u)(hp:v.plain=some v'):RepP ren E.w E.Wr v' u:=by
 cases h with
 | pure h=>
  cases h with
  | sc _ h=>cases hp; exact .sc _ h
  | agg cs us hl h h1=>cases hp; exact .agg cs us hl h h1
  | sl sz es A c f hc hsz k o hA hcell h1 h=>cases hp; exact .sl sz es A c f hc hsz k o hA hcell h1 h
  | ful sz es A f hsz k o hA hcell h1 h hon=>cases hp; exact .sl sz es A es.length f (Wq _) hsz k o hA hcell h1 h
  | fn f g h=>cases hp; exact .fn f g h
 | gs sz es β c arr T f hω hb hc hn hsz hcell h1 h=>
  cases hp
  have:=Rep.dem hU (Rep.gs (l:=l) sz es β c arr T f hω hb hc hn hsz hcell h1 h) l
  cases this with
  | pure h=>exact h
 | fr sz es β c arr T f hω hb hc hn hsz hcell h1 h=>cases hp
 | fr0 sz A=>cases hp
 | ub b=>cases hp
 | mp id L hL=>cases hp
 | bx p cs β arr T f hω hb hn hcell h1 h=>cases hp
 | own id off len sz c L A hL hl hc hA=>cases hp
 | cut id off len cap sz c L A hL hl hc hA=>cases hp
 | ptr id off L hL=>cases hp
 | fp n cs k o f hl hcell h1 h=>cases hp
 | fn f g caps us hr hl h=>
  cases caps with
  | nil=>
   cases hp
   cases us with
   | nil=>exact .fn f g hr
   | cons x xs=>simp at hl
  | cons x xs=>cases hp
 | tup vs us hl h=>cases hp
 | st cs us hl h h1=>cases hp
 | junk=>cases hp
end
section
def env(U:Nat→Nat→Prop)(σ:St)(w:World)(ω:Nat→Ow)(μ:Nat→Nat):En:=⟨w,wr U ω,ω,μ,yr σ.b⟩
def MapRep(ren:Rn)(w:World)(Wr:Nat→Nat→Prop)(es:Lm)(arr:Array MapEntry):Prop:=
 arr.size=es.length∧∀ (j:Nat) (k v:V),es[j]?=some (k,v)→∃ e,arr[j]?=some e∧RepP ren w Wr k e.key∧RepP ren w Wr v e.val
theorem MapRep.mono{ren:Rn}{w w':World}{Wr Wr':Nat→Nat→Prop}(H:∀ k o u,¬ Wr k o→w.cell? ⟨k,o,none⟩=some u→¬ Wr' k o∧w'.cell? ⟨k,o,none⟩=some u){es:Lm}{arr:Array MapEntry}(h:MapRep ren w Wr es arr):MapRep ren w' Wr' es arr:=
 ⟨h.1,fun j k v hj=>by obtain ⟨e,h1,h2,h3⟩:=h.2 j k v hj; exact ⟨e,h1,h2.mono H,h3.mono H⟩⟩
def GV(ren:Rn)(w:World)(Wr:Nat→Nat→Prop):Prop:=∀ g cs,ren.g g=some cs→∀ (i:Nat) (v:V),cs[i]?=some v→∃ x,v=.sc x∧x.oneCell'=true∧¬ Wr g i∧w.cell? ⟨g,i,none⟩=some x
theorem GV.mono{ren:Rn}{w w':World}{Wr Wr':Nat→Nat→Prop}(h:GV ren w Wr)(H:∀ k o u,¬ Wr k o→w.cell? ⟨k,o,none⟩=some u→¬ Wr' k o∧w'.cell? ⟨k,o,none⟩=some u):GV ren w' Wr':=by
 intro g cs hg i v hv
 obtain ⟨x,h1,h2,h3,h4⟩:=h g cs hg i v hv
 exact ⟨x,h1,h2,H _ _ _ h3 h4⟩
structure Rel (ren:Rn) (we:World) (ωe:Nat→Ow) (U:Nat→Nat→Prop) (O:Nat→Prop) (σ:St) (a:Act) (w:World) (ω:Nat→Ow) (μ:Nat→Nat):Prop where
 df:a.defers=[]
 tl:a.tmps.size=σ.t.length
 ts:∀ (i:Nat) (v:V),σ.t[i]?=some v→Rep ren (env U σ w ω μ) (.slot i 0) v (a.tmps.getD i undef)
 bs:∀ (id:Nat) (p:Bool) (cs:List V),σ.b[id]?=some (.live p cs)→cs=[]∨(ω (μ id)=.blk id∧∃ arr T,w.heap[μ id]?=some (.cells arr T (0,0))∧cs.length≤arr.size ∧
  ∀ (j:Nat) (c:V),cs[j]?=some c→∃ u,arr[j]?=some u∧u.oneCell'=true∧(p=true→RepP ren w (wr U ω) c u)∧Rep ren (env U σ w ω μ) (.cell id j) c u)
 fs:∀ (id:Nat) (cs:List V),σ.b[id]?=some (.fz cs)→(∀ o,¬ wr U ω (μ id) o)∧∃ arr T fr,w.heap[μ id]?=some (.cells arr T fr)∧cs.length≤arr.size ∧
  ∀ (j:Nat) (c:V),cs[j]?=some c→∃ u,arr[j]?=some u∧u.oneCell'=true∧RepP ren w (wr U ω) c u
 ms:∀ (id:Nat) (es:Lm),σ.b[id]?=some (.mp es)→ω (μ id)=.blk id∧∃ arr clock,w.heap[μ id]?=some (.map arr clock)∧MapRep ren w (wr U ω) es arr
 kp:Kept O we w
 ow:∀ k,ω k≠.no→(we.heap.size≤k∨O k)∧k<w.heap.size
 ul:∀ k o,U k o→k<we.heap.size∧¬ O k
 fr:∀ k o u,¬ wr U ωe k o→we.cell? ⟨k,o,none⟩=some u→¬ wr U ω k o∧w.cell? ⟨k,o,none⟩=some u
 rs:∀ k,yA we k≤yA w k
 gv:GV ren we (wr U ωe)
variable {ren:Rn} {we:World} {ωe:Nat→Ow} {U:Nat→Nat→Prop} {O:Nat→Prop} {σ:St} {a:Act} {w:World} {ω:Nat→Ow} {μ:Nat→Nat} {P:Program}
theorem Rel.hU(R:Rel ren we ωe U O σ a w ω μ):∀ β l h i,(env U σ w ω μ).ω β=.gs l h→i<h→¬ (env U σ w ω μ).Wr β i:=by
 intro β l h i hω hi hw
 have hω:ω β=.gs l h:=hω
 have hw:wr U ω β i:=hw
 rcases hw with h' | h'
 ·have h1:=R.ul _ _ h'
  have h2:=(R.ow β (by rw [hω]; simp)).1
  rcases h2 with h2 | h2
  ·omega
  ·exact h1.2 h2
 ·rw [hω] at h'
  simp only at h'
  omega
def Src.loc:Src→Loc
 | .tmp t=>.slot t 0
 | .const _=>.slot 0 0
theorem Rel.slot(R:Rel ren we ωe U O σ a w ω μ)(t:Nat):Rep ren (env U σ w ω μ) (.slot t 0) (σ.t.getD t .junk) (a.tmps.getD t undef):=by
 cases h:σ.t[t]? with
 | none=>rw [Ws,h]; exact .junk
 | some v=>rw [Ws,h]; exact R.ts t v h
theorem zF1{ty:TypeId}{x:Value}{v:V}(h:zwJ P ty x=some v)(E:En)(l:Loc):Rep ren E l v x:=by
 unfold zwJ at h
 split at h
 ·cases h; exact .pure (.sc _ rfl)
 ·cases h; exact .pure (.sc _ rfl)
 ·cases h; exact .pure (.sc _ rfl)
 ·split at h
  ·cases hs:xx P ‹_› with
   | none=>simp [hs] at h
   | some n=>simp [hs] at h; subst h; exact .pure (.nil _ _)
  ·cases h
 ·cases h; exact .pure (.sc _ rfl)
 ·cases h; exact .pure (.sc _ rfl)
 ·cases h
theorem GV.rep{E:En}(h:GV ren E.w E.Wr){g:Nat}{cs:List V}(hg:ren.g g=some cs)(l:Loc):Rep ren E l (.fp cs.length cs) (.pointer (some ⟨g,0,none⟩)):=by
 have hx:∀ (i:Nat) (v:V),cs[i]?=some v→∃ x,v=.sc x∧x.oneCell'=true∧¬ E.Wr g i∧E.w.cell? ⟨g,i,none⟩=some x:=h g cs hg
 refine .fp cs.length cs g 0 (fun i=>match cs[i]? with | some (.sc x)=>x | _=>undef) rfl (fun i v hv=>?_) (fun i v hv=>?_) (fun i v hv=>?_)
 ·obtain ⟨x,rfl,_,h3,h4⟩:=hx i v hv
  rw [WB,hv]; exact ⟨h3,h4⟩
 ·obtain ⟨x,rfl,h2,_,_⟩:=hx i v hv
  rw [hv]; exact h2
 ·obtain ⟨x,rfl,h2,_,_⟩:=hx i v hv
  rw [hv]; exact .sc x h2
theorem Rel.gvn(R:Rel ren we ωe U O σ a w ω μ):GV ren w (wr U ω):=R.gv.mono R.fr
theorem Rel.opnd(R:Rel ren we ωe U O σ a w ω μ){ty:TypeId}{x:Operand}{s:Src}(h:yj P ren ty x=some s):Rep ren (env U σ w ω μ) s.loc (s.get σ) (a.eval x):=by
 cases x with
 | tmp t=>cases h; exact R.slot t
 | const v=>
  cases hc:zwJ P ty v with
  | none=>simp [yj,hc] at h
  | some v'=>simp [yj,hc] at h; subst h; exact zF1 hc _ _
 | global g=>
  cases hg:ren.g g with
  | none=>simp [yj,hg] at h
  | some cs=>simp [yj,hg] at h; subst h; exact GV.rep (E:=env U σ w ω μ) R.gvn hg _
 | func f=>
  cases hr:ren f with
  | none=>simp [yj,hr] at h
  | some g=>simp [yj,hr] at h; subst h; exact .pure (.fn f g hr)
theorem Rep.sc_eq{E:En}{l:Loc}{v u:Value}(h:Rep ren E l (.sc v) u):u=v∧v.oneCell'=true:=by
 cases h with
 | pure h=>cases h with | sc _ h=>exact ⟨rfl,h⟩
theorem Rep.int{E:En}{l:Loc}{v:V}{u:Value}{n:Int}(h:Rep ren E l v u)(hn:v.int?=some n):∃ k,u=.int k n:=by
 cases v <;> simp [V.int?] at hn
 rename_i v
 cases v <;> simp at hn
 subst hn
 exact ⟨_,h.sc_eq.1⟩
theorem Rep.bool{E:En}{l:Loc}{v:V}{u:Value}{n:Bool}(h:Rep ren E l v u)(hn:v.bool?=some n):u=.bool n:=by
 cases v <;> simp [V.bool?] at hn
 rename_i v
 cases v <;> simp at hn
 subst hn
 exact h.sc_eq.1
theorem Rep.agg_eq{E:En}{l:Loc}{cs:List V}{u:Value}(h:Rep ren E l (.agg cs) u):RepP ren E.w E.Wr (.agg cs) u:=by
 cases h with
 | pure h=>exact h
theorem Rep.ptr_inv{E:En}{l:Loc}{id off:Nat}{u:Value}(h:Rep ren E l (.ptr id off) u):∃ L,E.bl id=some L∧u=.pointer (some ⟨E.μ id,off,none⟩):=by
 cases h with
 | pure h=>cases h
 | ptr _ _ L hL=>exact ⟨L,hL,rfl⟩
theorem Rep.fp_inv{E:En}{l:Loc}{n:Nat}{cs:List V}{u:Value}(h:Rep ren E l (.fp n cs) u):∃ (k o:Nat) (f:Nat→Value),u=.pointer (some ⟨k,o,none⟩)∧cs.length=n ∧
  (∀ (i:Nat) (v:V),cs[i]?=some v→¬ E.Wr k (o+i)∧E.w.cell? ⟨k,o+i,none⟩=some (f i))∧(∀ (i:Nat) (v:V),cs[i]?=some v→(f i).oneCell'=true)∧(∀ (i:Nat) (v:V),cs[i]?=some v→RepP ren E.w E.Wr v (f i)):=by
 cases h with
 | pure h=>cases h
 | fp _ _ k o f hl hcell h1 h=>exact ⟨k,o,f,rfl,hl,hcell,h1,h⟩
theorem RepP.sl_inv{w:World}{Wr:Nat→Nat→Prop}{sz:Nat}{es:Ls}{u:Value}(h:RepP ren w Wr (.sl sz es) u):∃ (A:Option Addr) (c:Nat) (f:Nat→Value) (k o:Nat),u=.slice A es.length c∧es.length≤c∧(∀ e∈es,e.length=sz)∧(es≠[]→A=some ⟨k,o,none⟩) ∧
  (∀ (i:Nat) (v:V),es.flatten[i]?=some v→¬ Wr k (o+i)∧w.cell? ⟨k,o+i,none⟩=some (f i))∧(∀ (i:Nat) (v:V),es.flatten[i]?=some v→(f i).oneCell'=true)∧(∀ (i:Nat) (v:V),es.flatten[i]?=some v→RepP ren w Wr v (f i)):=by
 cases h with
 | sl _ _ A c f hc hsz k o hA hcell h1 h=>exact ⟨A,c,f,k,o,rfl,hc,hsz,hA,hcell,h1,h⟩
theorem Rep.sl_pure{E:En}{l:Loc}{sz:Nat}{es:Ls}{u:Value}(h:Rep ren E l (.sl sz es) u):RepP ren E.w E.Wr (.sl sz es) u:=by
 cases h with
 | pure h=>exact h
theorem Rep.own_inv{E:En}{l:Loc}{id off len sz:Nat}{u:Value}(h:Rep ren E l (.own id off len sz) u):∃ c L A,u=.slice A len c∧E.bl id=some L∧off+len*sz≤L∧(len≤c∧(L=0→sz=0∨c=0)) ∧
  ((A=some ⟨E.μ id,off,none⟩∧off+c*sz≤yA E.w (E.μ id))∨(len=0∧c=0)):=by
 cases h with
 | pure h=>cases h
 | own _ _ _ _ c L A hL hl hc hA=>exact ⟨c,L,A,rfl,hL,hl,hc,hA⟩
theorem Rep.cut_inv{E:En}{l:Loc}{id off len cap sz:Nat}{u:Value}(h:Rep ren E l (.cut id off len cap sz) u):∃ c L A,u=.slice A len c∧E.bl id=some L∧off+cap*sz≤L∧(len≤cap∧cap≤c∧(L=0→sz=0∨c=0)) ∧
  ((A=some ⟨E.μ id,off,none⟩∧off+c*sz≤yA E.w (E.μ id))∨(cap=0∧c=0)):=by
 cases h with
 | pure h=>cases h
 | cut _ _ _ _ _ c L A hL hl hc hA=>exact ⟨c,L,A,rfl,hL,hl,hc,hA⟩
theorem Rep.mp_inv{E:En}{l:Loc}{id:Nat}{u:Value}(h:Rep ren E l (.mp id) u):∃ L,E.bl id=some L∧u=.map (some (E.μ id)):=by
 cases h with
 | pure h=>cases h
 | mp _ L hL=>exact ⟨L,hL,rfl⟩
theorem Rep.fn_inv{E:En}{l:Loc}{g:Nat}{caps:List V}{u:Value}(h:Rep ren E l (.fn g caps) u):∃ f us,u=.func (.func f) #[] (List.toArray us)∧ren f=some g∧caps.length=us.length ∧
  (∀ (i:Nat) (c:V),caps[i]?=some c→∃ id off L,c=.ptr id off∧E.bl id=some L∧us[i]?=some (.pointer (some ⟨E.μ id,off,none⟩))):=by
 cases h with
 | pure h=>cases h with | fn f _ h=>exact ⟨f,[],rfl,h,rfl,by simp⟩
 | fn f _ _ us hr hl h=>exact ⟨f,us,rfl,hr,hl,h⟩
theorem Rep.tup_inv{E:En}{l:Loc}{vs:List V}{u:Value}(h:Rep ren E l (.tup vs) u):∃ us,u=.tuple (List.toArray us)∧vs.length=us.length∧(∀ (j:Nat) (v:V) (u:Value),vs[j]?=some v→us[j]?=some u→Rep ren E (l.sub j) v u):=by
 cases h with
 | pure h=>cases h
 | tup _ us hl h=>exact ⟨us,rfl,hl,h⟩
theorem Rep.st_inv{E:En}{l:Loc}{cs:List V}{u:Value}(h:Rep ren E l (.st cs) u):∃ us,u=.agg (List.toArray us)∧cs.length=us.length∧(∀ (i:Nat) (c:V) (u:Value),cs[i]?=some c→us[i]?=some u→RepP ren E.w E.Wr c u∨OwnAt E c u)∧(∀ u∈us,u.oneCell'=true):=by
 cases h with
 | pure h=>cases h
 | st _ us hl h h1=>exact ⟨us,rfl,hl,h,h1⟩
theorem zzE{a b:Prop}(h:¬ a→b):a∨b:=(Classical.em a).elim .inl (fun n=>.inr (h n))
theorem Rel.live(R:Rel ren we ωe U O σ a w ω μ){id:Nat}{p:Bool}{cs:List V}(h:σ.b[id]?=some (.live p cs))(hne:cs≠[]):ω (μ id)=.blk id∧∃ arr T,w.heap[μ id]?=some (.cells arr T (0,0))∧cs.length≤arr.size ∧
  ∀ (j:Nat) (c:V),cs[j]?=some c→∃ u,arr[j]?=some u∧u.oneCell'=true∧(p=true→RepP ren w (wr U ω) c u)∧Rep ren (env U σ w ω μ) (.cell id j) c u:=
 (R.bs id p cs h).resolve_left hne
theorem RepP.loc{E:En}{v:V}{u:Value}(h:RepP ren E.w E.Wr v u)(l:Loc):Rep ren E l v u:=.pure h
theorem zPN{op:BinOp}{x y r:Value}(t:TypeId)(ox oy:Operand)(h:zr5 op x y=some r) :
  (eqGuard op t ox oy x y).run P w=.ok () w∧(binOp op t x y).run P w=.ok r w∧r.oneCell'=true:=by
 unfold zr5 at h
 split at h
 ·split at h
  ·cases h
  ·rename_i hb; cases h
   refine ⟨?_,?_,rfl⟩
   ·simp [eqGuard]
   ·simp [binOp,Op.shift,hb]
 ·split at h
  ·cases h
  ·rename_i hb; cases h
   refine ⟨?_,?_,rfl⟩
   ·simp [eqGuard]
   ·simp [binOp,Op.shift,hb]
 ·split at h
  ·cases h
  ·rename_i hk
   simp only [ne_eq,Decidable.not_not] at hk
   subst hk
   split at h <;> first
    | (cases h; refine ⟨by simp [eqGuard],by simp [binOp,Op.intArith,Op.intBits,Op.intCmp],rfl⟩; done)
    | (split at h; cases h; rename_i hb; cases h; exact ⟨by simp [eqGuard],by simp [binOp,Op.intDiv,hb],rfl⟩)
    | cases h
 ·cases h; exact ⟨by simp [eqGuard],by simp [binOp,Op.stringOp],rfl⟩
 ·cases h; exact ⟨by simp [eqGuard],by simp [binOp,Op.stringOp],rfl⟩
 ·cases h
theorem zSB{op:UnOp}{x r:Value}(h:zOO op x=some r):(Op.unary op x).run P w=.ok r w∧r.oneCell'=true:=by
 unfold zOO at h
 split at h
 ·cases h; exact ⟨by simp [Op.unary,Op.intArith],rfl⟩
 ·cases h; exact ⟨by simp [Op.unary],rfl⟩
 ·cases h; exact ⟨by simp [Op.unary,Op.intBits],rfl⟩
 ·cases h
end
section
variable {ren:Rn} {we:World} {ωe:Nat→Ow} {U:Nat→Nat→Prop} {O:Nat→Prop} {σ:St} {a:Act} {w:World} {ω:Nat→Ow} {μ:Nat→Nat} {P:Program}
theorem znw{cs new:List V}{off:Nat}(h:off+new.length≤cs.length):(xd cs off new).length=cs.length:=by
 unfold xd; simp only [Wm,Ww,List.length_drop]; omega
theorem zij{α:Type}{cs new:List α}{off:Nat}(h:off+new.length≤cs.length)(i:Nat) :
  (cs.take off++new++cs.drop (off+new.length))[i]?=if off≤i∧i<off+new.length then new[i-off]? else cs[i]?:=by
 have hm:min off cs.length=off:=by omega
 by_cases h1:i<off
 ·rw [if_neg (by omega),Wu,Wv (by simp; omega),Wn,if_pos h1]
 ·by_cases h2:i<off+new.length
  ·rw [if_pos ⟨by omega,h2⟩,Wu,Wt (by simp; omega),Wv (by simp; omega)]
   simp [hm]
  ·rw [if_neg (by omega),Wt (by simp; omega),Wp]
   congr 1
   simp [hm]; omega
def CellsP(ren:Rn)(w:World)(Wr:Nat→Nat→Prop)(cs:List V)(us:List Value):Prop:=
 cs.length=us.length∧∀ (i:Nat) (c:V),cs[i]?=some c→∃ u,us[i]?=some u∧u.oneCell'=true∧RepP ren w Wr c u
theorem CellsP.agg{Wr:Nat→Nat→Prop}{cs:List V}{us:List Value}(h:CellsP ren w Wr cs us):RepP ren w Wr (.agg cs) (.agg us.toArray):=by
 refine .agg cs us h.1 (fun i c u hc hu=>?_) (fun u hu=>?_)
 ·obtain ⟨x,hx,_,hr⟩:=h.2 i c hc
  rw [hx] at hu; cases hu; exact hr
 ·obtain ⟨i,hi,rfl⟩:=List.getElem_of_mem hu
  have hlt:i<cs.length:=by rw [h.1]; exact hi
  obtain ⟨x,hx,h1,_⟩:=h.2 i _ (Wc hlt)
  rw [Wc hi] at hx; cases hx; exact h1
theorem RepP.cellsP{Wr:Nat→Nat→Prop}{v:V}{u:Value}(h:RepP ren w Wr v u):CellsP ren w Wr v.cells u.cells.toList:=by
 obtain ⟨h1,h2⟩:=h.cells
 refine ⟨by simpa using h1,fun i c hc=>?_⟩
 obtain ⟨x,hx,r⟩:=h2 i c hc
 exact ⟨x,by simpa using hx,r⟩
theorem CellsP.of_agg{Wr:Nat→Nat→Prop}{cs:List V}{u:Value}(h:RepP ren w Wr (.agg cs) u):∃ us:List Value,u=.agg us.toArray∧CellsP ren w Wr cs us:=by
 cases h with
 | agg _ us hl h h1=>
  refine ⟨us,rfl,hl,fun i c hc=>?_⟩
  have hi:i<us.length:=by rw [← hl]; exact (Wi.1 hc).1
  exact ⟨us[i],Wc hi,h1 _ (List.getElem_mem hi),h i c _ hc (Wc hi)⟩
theorem CellsP.setAt{Wr:Nat→Nat→Prop}{cs new:List V}{us xs:List Value}{off:Nat}(h:CellsP ren w Wr cs us)(hn:CellsP ren w Wr new xs)(hl:off+new.length≤cs.length) :
  CellsP ren w Wr (xd cs off new) (us.take off++xs++us.drop (off+xs.length)):=by
 have e1:=h.1
 have e2:=hn.1
 refine ⟨?_,fun i c hc=>?_⟩
 ·rw [znw hl]
  simp only [Wm,Ww,List.length_drop]; omega
 ·unfold xd at hc
  rw [zij hl] at hc
  rw [zij (by omega),← e2]
  split at hc
  ·rename_i hi
   rw [if_pos hi]; exact hn.2 _ c hc
  ·rename_i hi
   rw [if_neg hi]; exact h.2 i c hc
theorem CellsP.dropTake{Wr:Nat→Nat→Prop}{cs:List V}{us:List Value}(h:CellsP ren w Wr cs us)(o n:Nat):CellsP ren w Wr ((cs.drop o).take n) ((us.drop o).take n):=by
 have e1:=h.1
 refine ⟨by simp [e1],fun i c hc=>?_⟩
 rw [Wn] at hc ⊢
 split at hc
 ·rename_i hi
  rw [if_pos hi]
  rw [Wp] at hc ⊢
  exact h.2 _ c hc
 ·cases hc
theorem CellsP.mono{w':World}{Wr Wr':Nat→Nat→Prop}{cs:List V}{us:List Value}(h:CellsP ren w Wr cs us)
  (H:∀ k o u,¬ Wr k o→w.cell? ⟨k,o,none⟩=some u→¬ Wr' k o∧w'.cell? ⟨k,o,none⟩=some u):CellsP ren w' Wr' cs us:=
 ⟨h.1,fun i c hc=>by obtain ⟨u,h1,h2,h3⟩:=h.2 i c hc; exact ⟨u,h1,h2,h3.mono H⟩⟩
theorem zAb(off:Nat):∀ (l:List Value) (n:Nat) (cells:Array Value),off+n+l.length≤cells.size →
  ((l.zipIdx n).foldl (fun cs (p:Value × Nat)=>cs.setIfInBounds (off+p.2) p.1) cells).toList=cells.toList.take (off+n)++l++cells.toList.drop (off+n+l.length)
 | [],n,cells,h=>by simp
 | x::l,n,cells,h=>by
  simp only [List.zipIdx_cons,List.foldl_cons]
  simp only [List.length_cons] at h
  rw [zAb off l (n+1) _ (by simp; omega)]
  have e:=list_seg_step cells.toList (off+n) x l (by simp; omega)
  simp only [Array.toList_setIfInBounds,← Nat.add_assoc] at e ⊢
  rw [e]
  simp [Nat.add_assoc,Nat.add_comm 1]
theorem zEo(R:Rel ren we ωe U O σ a w ω μ)(place:Nat→Option (Nat × TypeId))(placeR:Nat→Option (Nat × Nat))
  (hpl:∀ i off ty n,place i=some (off,ty)→xx P ty=some n→placeR i=some (off,n)) :
  ∀ (parts:List (Nat × Operand)) (ps:List (Nat × Nat × Src)) (cs cs':List V) (arr:Array Value),zkp P ren place parts=some ps→zcA σ ps cs=some cs' →
   CellsP ren w (wr U ω) cs arr.toList→∃ arr':Array Value,Instr.fill placeR arr (parts.map fun p=>(p.1,a.eval p.2))=some arr'∧CellsP ren w (wr U ω) cs' arr'.toList
 | [],ps,cs,cs',arr,hc,hf,h=>by cases hc; cases hf; exact ⟨arr,rfl,h⟩
 | (i,x)::parts,ps,cs,cs',arr,hc,hf,h=>by
  simp only [zkp,Wb,Wa,Wl,Wg,Prod.exists] at hc
  obtain ⟨off,ty,h1,s,h2,n,h3,rest,h4,rfl⟩:=hc
  simp only [zcA,Wb,Wa] at hf
  obtain ⟨v,hv,hf⟩:=hf
  split at hf
  ·rename_i hln
   have hr:=(R.opnd h2).plain R.hU hv
   have hcp:=hr.cellsP
   have e1:=hcp.1
   have e2:=h.1
   simp at e1 e2
   have hs:((a.eval x).cells.zipIdx.foldl (fun cs (p:Value × Nat)=>cs.setIfInBounds (off+p.2) p.1) arr).toList=arr.toList.take off++(a.eval x).cells.toList++arr.toList.drop (off+(a.eval x).cells.toList.length):=by
    have:=zAb off (a.eval x).cells.toList 0 arr (by simp; omega)
    rw [← WA,Wz]
    simpa using this
   obtain ⟨arr',g1,g2⟩:=zEo R place placeR hpl parts rest _ cs' _ h4 hf (by rw [hs]; exact h.setAt hcp (by omega))
   refine ⟨arr',?_,g2⟩
   simp only [List.map_cons,Instr.fill,hpl i off ty n h1 h3]
   rw [if_neg (by simp; omega)]
   exact g1
  ·cases hf
def CellsQ(ren:Rn)(E:En)(cs:List V)(us:List Value):Prop:=
 cs.length=us.length∧∀ (i:Nat) (c:V),cs[i]?=some c→∃ u,us[i]?=some u∧u.oneCell'=true∧(RepP ren E.w E.Wr c u∨OwnAt E c u)
theorem CellsP.toQ{E:En}{cs:List V}{us:List Value}(h:CellsP ren E.w E.Wr cs us):CellsQ ren E cs us:=
 ⟨h.1,fun i c hc=>by obtain ⟨u,h1,h2,h3⟩:=h.2 i c hc; exact ⟨u,h1,h2,.inl h3⟩⟩
theorem CellsQ.setAt{E:En}{cs new:List V}{us un:List Value}(h:CellsQ ren E cs us)(hn:CellsQ ren E new un){off:Nat}(hb:off+new.length≤cs.length):CellsQ ren E (xd cs off new) (us.take off++un++us.drop (off+un.length)):=by
 have e1:=h.1
 have e2:=hn.1
 refine ⟨by simp [xd,e1,e2],fun i c hc=>?_⟩
 simp only [xd,Wu] at hc ⊢
 rw [Wx] at hc ⊢
 simp only [Ww,show min off cs.length=off by omega,show min off us.length=off by omega] at hc ⊢
 split at hc
 ·rename_i hi
  rw [if_pos hi]
  rw [Wn,if_pos hi] at hc ⊢
  exact h.2 i c hc
 ·rename_i hi
  rw [if_neg hi]
  rw [Wx] at hc ⊢
  split at hc
  ·rename_i hi2
   rw [if_pos (by omega)]
   exact hn.2 _ c hc
  ·rename_i hi2
   rw [if_neg (by omega)]
   rw [Wp] at hc ⊢
   rw [← e2]
   exact h.2 _ c hc
theorem OwnAt.isOwn{E:En}{v:V}{u:Value}(h:OwnAt E v u):v.cells=[v]∧u.cells=#[u]∧u.oneCell'=true:=by
 obtain ⟨id,off,len,sz,c,L,A,rfl,rfl,_⟩:=h
 exact ⟨rfl,rfl,rfl⟩
theorem Rep.refd'{E:En}(hU:∀ β l h i,E.ω β=.gs l h→i<h→¬ E.Wr β i){l:Loc}{v v':V}{u:Value}(h:Rep ren E l v u)(hp:v.refd=some v'):CellsQ ren E v'.cells u.cells.toList:=by
 have:RepP ren E.w E.Wr v' u∨OwnAt E v' u:=by
  cases v with
  | own id off len sz=>cases hp; exact .inr h.ownAt
  | _=>exact .inl (h.plain hU hp)
 rcases this with h | h
 ·exact h.cellsP.toQ
 ·obtain ⟨e1,e2,e3⟩:=h.isOwn
  rw [e1,e2]
  refine ⟨rfl,fun i c hc=>?_⟩
  cases i with
  | zero=>simp at hc; subst hc; exact ⟨u,rfl,e3,.inr h⟩
  | succ i=>simp at hc
theorem zJc(R:Rel ren we ωe U O σ a w ω μ)(place:Nat→Option (Nat × TypeId))(placeR:Nat→Option (Nat × Nat))
  (hpl:∀ i off ty n,place i=some (off,ty)→xx P ty=some n→placeR i=some (off,n)) :
  ∀ (parts:List (Nat × Operand)) (ps:List (Nat × Nat × Src)) (cs cs':List V) (arr:Array Value),zkp P ren place parts=some ps→zff σ ps cs=some cs' →
   CellsQ ren (env U σ w ω μ) cs arr.toList→∃ arr':Array Value,Instr.fill placeR arr (parts.map fun p=>(p.1,a.eval p.2))=some arr'∧CellsQ ren (env U σ w ω μ) cs' arr'.toList
 | [],ps,cs,cs',arr,hc,hf,h=>by cases hc; cases hf; exact ⟨arr,rfl,h⟩
 | (i,x)::parts,ps,cs,cs',arr,hc,hf,h=>by
  simp only [zkp,Wb,Wa,Wl,Wg,Prod.exists] at hc
  obtain ⟨off,ty,h1,s,h2,n,h3,rest,h4,rfl⟩:=hc
  simp only [zff,Wb,Wa] at hf
  obtain ⟨v,hv,hf⟩:=hf
  split at hf
  ·rename_i hln
   have hcp:=Rep.refd' R.hU (R.opnd h2) hv
   have e1:=hcp.1
   have e2:=h.1
   simp at e1 e2
   have hs:((a.eval x).cells.zipIdx.foldl (fun cs (p:Value × Nat)=>cs.setIfInBounds (off+p.2) p.1) arr).toList=arr.toList.take off++(a.eval x).cells.toList++arr.toList.drop (off+(a.eval x).cells.toList.length):=by
    have:=zAb off (a.eval x).cells.toList 0 arr (by simp; omega)
    rw [← WA,Wz]
    simpa using this
   obtain ⟨arr',g1,g2⟩:=zJc R place placeR hpl parts rest _ cs' _ h4 hf (by rw [hs]; exact h.setAt hcp (by omega))
   refine ⟨arr',?_,g2⟩
   simp only [List.map_cons,Instr.fill,hpl i off ty n h1 h3]
   rw [if_neg (by simp; omega)]
   exact g1
  ·cases hf
theorem zhk{α β:Type}{f:α→Option β}:∀ {l:List α} {r:List β},l.mapM f=some r→∀ (i:Nat) (x:α),l[i]?=some x→∃ b,r[i]?=some b∧f x=some b
 | [],r,h,i,x,hx=>by simp at hx
 | y::l,r,h,i,x,hx=>by
  simp only [List.mapM_cons,Wb,Wa,Wl,Wg] at h
  obtain ⟨b,hb,bs,hbs,rfl⟩:=h
  cases i with
  | zero=>simp at hx; subst hx; exact ⟨b,by simp,hb⟩
  | succ i=>simp at hx; obtain ⟨c,h1,h2⟩:=zhk hbs i x hx; exact ⟨c,by simpa using h1,h2⟩
theorem zb9{α β:Type}{f:α→Option β}:∀ {l:List α} {r:List β},l.mapM f=some r→r.length=l.length
 | [],r,h=>by simp at h; subst h; rfl
 | y::l,r,h=>by
  simp only [List.mapM_cons,Wb,Wa,Wl,Wg] at h
  obtain ⟨b,hb,bs,hbs,rfl⟩:=h
  simp [zb9 hbs]
end
end Go.Proofs.YtgmhijonllockaaGreatDoor
