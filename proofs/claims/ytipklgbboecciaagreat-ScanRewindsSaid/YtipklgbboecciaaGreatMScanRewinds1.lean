/- Part 1 of the proof of ScanRewinds: an abstract machine over plain values, its soundness, and the functions of the program on plain values. -/
import Derived.WalkKit
import Derived.WalkSpells
import Derived.WalkLawsBesides
import Derived.Deep.QuietTactic
import Derived.BigQuiet
import Derived.Lib.Hide
import Derived.Deep.AppendLies
import Derived.Deep.Draws
import Derived.Deep.MidRow
import Derived.Orders
import Derived.Lib.BytesEntry
import Derived.Laws.Tables
import Derived.Laws.BytesString
namespace Go.Proofs.YtipklgbboecciaaGreat
set_option maxRecDepth 100000
set_option linter.unusedVariables false
set_option linter.unusedSimpArgs false
open Option renaming bind_eq_some_iff->Waa,bind_eq_bind->Wab,map_eq_some_iff->Wag
open List renaming getElem?_eq_getElem->Wac,replicate->Wad,getElem?_take->Wai,getElem?_drop->Waj,getD_eq_getElem?_getD->Wak,getElem?_append_right->Wal,getElem?_eq_some_iff->Wam,getElem?_append_left->Wan,getElem?_append->Wap,range->Waq,getElem_of_mem->War
open Nat renaming beq->Wae,le_refl->Wah,eq_of_beq_eq_true->Wao,zero_add->Wau
open Option.some renaming injEq->Waf
open _root_.Array renaming toList_zipIdx->Was,foldl_toList->Wat
open Int renaming ofNat->Wav
section
open Go.RowKit
variable {k:Nat}{O:Nat->Prop}
theorem OE(a:Addr)(n:Nat):(a.add n).block=a.block:=by unfold Addr.add; split <;> rfl
theorem zh8(w:World)(p a:Addr)(v:Value)(h:p.block≠a.block):(w.setCell p v).cell? a=w.cell? a:=World.cell?_setCell_other w p a v (λe=>h (by rw [e]))
theorem zh4(w:World)(o:Obj)(a:Addr)(h:a.block<w.heap.size):(w.alloc o).cell? a=w.cell? a:=World.cell?_alloc_lt w o a h
attribute [go_sem] zh8 zh4 OE
structure Kept (O:Nat->Prop) (w w':World):Prop where
 os:w'.os=w.os
 tape:w'.tape=w.tape
 output:w'.output=w.output
 size:w.heap.size<=w'.heap.size
 block:∀ k,k<w.heap.size->¬ O k->w'.heap[k]?=w.heap[k]?
def No:Nat->Prop:=λ_=>False
theorem AH{P:Prop}(h:No k):P:=False.elim h
theorem Kept.refl(O:Nat->Prop)(w:World):Kept O w w:=⟨rfl,rfl,rfl,Wah _,λ_ _ _=>rfl⟩
theorem Kept.trans{O O':Nat->Prop}{a b c:World}(h:Kept O a b)(h':Kept O' b c)(hO:∀ k,k<a.heap.size->O' k->O k):Kept O a c:=
 ⟨h'.os.trans h.os,h'.tape.trans h.tape,h'.output.trans h.output,Nat.le_trans h.size h'.size,
  λk hk hn=>(h'.block k (Nat.lt_of_lt_of_le hk h.size) (λh=>hn (hO k hk h))).trans (h.block k hk hn)⟩
theorem Kept.mono{O':Nat->Prop}{a b:World}(h:Kept O a b)(hO:∀ k,k<a.heap.size->O k->O' k):Kept O' a b:=
 ⟨h.os,h.tape,h.output,h.size,λk hk hn=>h.block k hk (λh=>hn (hO k hk h))⟩
theorem Kept.drew(O:Nat->Prop)(w:World):Kept O w w.drew:=⟨rfl,rfl,rfl,Wah _,λ_ _ _=>rfl⟩
theorem Kept.drewN(O:Nat->Prop)(w:World)(n:Nat):Kept O w (w.drewN n):=⟨rfl,rfl,rfl,Wah _,λ_ _ _=>rfl⟩
theorem Kept.alloc(O:Nat->Prop)(w:World)(o:Obj):Kept O w (w.alloc o):=⟨rfl,rfl,rfl,by simp,λk hk _=>Below.heap_alloc w o k hk⟩
theorem Kept.setCell(w:World){p:Addr}(hp:O p.block∨w.heap.size<=p.block)(u:Value):Kept O w (w.setCell p u):=
 ⟨rfl,rfl,rfl,by simp,λk hk hn=>Below.heap_setCell w p u k (by grind)⟩
theorem Kept.below{w w':World}(h:Kept No w w'):Below w.heap.size w w':=⟨h.os,h.tape,h.output,h.size,λk hk=>h.block k hk id⟩
theorem Kept.cell{O:Nat->Prop}{w w':World}(h:Kept O w w'){p:Addr}{u:Value}(hp:w.cell? p=some u)(hn:¬ O p.block):w'.cell? p=some u:=
 (World.cell?_of_block (h.block p.block (World.block_lt_of_cell? w p hp) hn)).trans hp
def Blk(w:World)(g:Nat)(t:TypeId)(cs:Array Value):Prop:=w.heap[g]?=some (.cells cs t (0,0))
section
variable {w w':World} {g:Nat} {t:TypeId} {cs:Array Value}
theorem Blk.lt(h:Blk w g t cs):g<w.heap.size:=by
 grind [Blk]
theorem Blk.cell(h:Blk w g t cs)(i:Nat):w.cell? ⟨g,i,none⟩=cs[i]?:=cell_of_row w g i cs t (0,0) h
theorem Blk.new(w:World)(t:TypeId)(cs:Array Value):Blk (w.alloc (.cells cs t)) w.heap.size t cs:=heap_alloc_new w _
theorem Blk.news(h:Blk w g t cs):∀ (j:Nat) (u:Value),cs.toList[j]?=some u->w.cell? ((⟨g,0,none⟩:Addr).add j)=some u:=World.news_of_block h
theorem Blk.keep(h:Blk w g t cs)(hk:Kept O w w')(hn:¬ O g):Blk w' g t cs:=(hk.block g h.lt hn).trans h
theorem Blk.keepN(h:Blk w g t cs)(hk:Kept No w w'):Blk w' g t cs:=h.keep hk id
theorem Blk.drewN(h:Blk w g t cs)(n:Nat):Blk (w.drewN n) g t cs:=h
end
def Rd(w:World)(O:Nat->Prop)(size:Nat)(A:Option Addr)(n:Nat)(xs:List Value):Prop:=
 xs.length=n*size/\(0<n->∃ ad,A=some ad/\¬ O ad.block/\∀ j u,xs[j]?=some u->w.cell? (ad.add j)=some u)
section
variable {w w':World} {O O':Nat->Prop} {size n:Nat} {A:Option Addr} {xs:List Value}
theorem Rd.nil(w:World)(O:Nat->Prop)(size:Nat)(A:Option Addr):Rd w O size A 0 []:=⟨by simp,λh=>absurd h (by omega)⟩
theorem Rd.keep(h:Rd w O size A n xs)(hk:Kept O' w w')(hO:∀ k,O' k->O k):Rd w' O size A n xs:=
 ⟨h.1,λhn=>by
  obtain ⟨ad,e,hb,hc⟩:=h.2 hn
  grind [Kept.cell,OE]⟩
theorem Rd.keepN(h:Rd w O size A n xs)(hk:Kept No w w'):Rd w' O size A n xs:=h.keep hk (λ_ h=>AH h)
theorem Rd.drewN(h:Rd w O size A n xs)(k:Nat):Rd (w.drewN k) O size A n xs:=h.keepN (Kept.drewN _ _ _)
theorem Rd.sub(h:Rd w O size A n xs)(hO:∀ k,O' k->O k):Rd w O' size A n xs:=
 ⟨h.1,λhn=>by obtain ⟨ad,e,hb,hc⟩:=h.2 hn; grind⟩
theorem Rd.at_(h:Rd w O 1 A n xs)(hk:k<n):∃ ad u,A=some ad/\¬ O ad.block/\xs[k]?=some u/\w.cell? (ad.add k)=some u:=by
 obtain ⟨ad,e,hb,hc⟩:=h.2 (by omega);have hl:k<xs.length:=by have:=h.1; omega
 simp_all
end
end
section
inductive V where
 | sc (v:Value)
 | agg (cs:List V)
 | ae (vs:List V)
 | sl (sz:Nat) (es:List (List V))
 | gs (sz:Nat) (es:List (List V))
 | own (id off len sz:Nat)
 | ptr (id off:Nat)
 | fp (n:Nat) (cs:List V)
 | fn (f:Nat) (caps:List V)
 | bx (p:Bool) (cs:List V)
 | fr (sz:Nat) (es:List (List V))
 | ub
 | mp (id:Nat)
 | st (cs:List V)
 | cut (id off len cap sz:Nat)
 | af
 deriving Inhabited
inductive B where
 | gone
 | live (p:Bool) (cs:List V)
 | fz (cs:List V)
 | mp (es:List (V × V))
 | dead (n:Nat)
 deriving Inhabited
structure St where
 t:List V
 b:List B
inductive Src where
 | tmp (t:Nat)
 | const (v:V)
inductive K where
 | move (x:Src) (take:Bool)
 | pick (c a b:Src)
 | alloc (p:Bool) (cs:List V)
 | box (p:Bool) (x:Src)
 | build (zero:List V) (parts:List (Nat × Nat × Src))
 | az (zero:List V) (parts:List (Nat × Nat × Src))
 | bE (sz id:Nat)
 | a8 (x:Src)
 | buildSlice (sz n:Nat) (zero:List V) (parts:List (Nat × Nat × Src))
 | load (agg:Bool) (n:Nat) (a:Src) (take:Bool)
 | store (n:Nat) (a x:Src)
 | aX (n:Nat) (a x:Src) (xs:List Nat)
 | nilCheck (x:Src)
 | bin (op:BinOp) (x y:Src)
 | aW (neg:Bool) (n:Nat) (x y:Src)
 | bH (neg:Bool) (x y:Src)
 | bo (neg:Bool) (x:Src)
 | un (op:UnOp) (x:Src)
 | conv (k:IntKind) (x:Src)
 | toStr (x:Src)
 | ofStr (x:Src)
 | bG (x:Src)
 | bk (x y:Src)
 | adc (sub:Bool) (x y c:Src)
 | makeSlice (sz bytes:Nat) (zero:List V) (l c:Src)
 | ay (n sz:Nat) (x:Src) (lo hi mx:Option Src)
 | aT (sz:Nat) (x:Src) (lo hi mx:Option Src)
 | aY (sz:Nat) (x:Src) (hi:Option Src)
 | aD (sz:Nat) (x hi mx:Src)
 | fieldAddr (off:Nat) (x:Src)
 | field (agg:Bool) (off n:Nat) (x:Src)
 | al (len sz:Nat) (x i:Src)
 | aj (sz:Nat) (x i:Src)
 | aR (agg:Bool) (len sz:Nat) (x i:Src)
 | bq (n sz:Nat) (x:Src)
 | bi (x:Src)
 | bF (x:Src)
 | aJ (n:Nat)
 | append (sz bytes:Nat) (s x:Src)
 | aO (sz bytes:Nat) (zero:List V) (s x:Src)
 | aM (sz bytes:Nat) (s x:Src)
 | bj (p:Bool) (sz:Nat) (a:Src)
 | aE (n:Nat) (a:Src)
 | bh (p:Bool) (sz:Nat) (x:Src)
 | copy (sz:Nat) (d s:Src)
 | clear (sz:Nat) (zero:List V) (x:Src)
 | mm (isMax:Bool) (x y:Src)
 | extract (x:Src) (i:Nat)
 | pull (x:Src) (i:Nat)
 | call (f:Nat) (args:List (Src × Nat)) (xs:List Nat)
 | aQ (f:Src) (args:List (Src × Nat)) (xs:List Nat)
 | makeFunc (f:Nat) (caps:List Src)
 | makeMap
 | a9 (kd:Nat) (ok:Bool) (zero:V) (x k:Src)
 | bz (kd:Nat) (x k v:Src)
 | bC (x:Src)
 | stuck
structure COp where
 dst:Option Nat
 ah:Bool
 guard:Option (Nat × Bool)
 k:K
structure Fl where
 q:Bool
 root:Option Nat
 w:List Nat
 s:Bool
 l:Bool
 nw:Bool
 wn:List Nat
 tk:Bool
def q0:Fl:=⟨false,none,[],false,false,false,[],false⟩
def q1:Fl:=⟨true,none,[],false,false,false,[],false⟩
def q2:Fl:=⟨false,none,[],true,false,false,[],false⟩
def ql(r:Nat)(w wn:List Nat):Fl:=⟨false,some r,w,false,true,false,wn,false⟩
def qn(w wn:List Nat):Fl:=⟨false,none,w,false,true,true,wn,false⟩
def qc(w wn:List Nat):Fl:=⟨false,none,w,false,true,false,wn,false⟩
inductive CC where
 | skip
 | bw (ops:List COp)
 | bu (fz:List Nat) (ops:List (COp × Fl))
 | seq (a b:CC)
 | fork (p:CC) (c:Src) (a b:CC)
 | cond (c:Src) (a b:CC)
 | block (id:Nat) (a:CC)
 | loop (keepT keepB:List Bool) (a:CC)
 | mask (keepT keepB:List Bool)
 | exit (id:Nat)
 | ret
inductive RV where
 | tmp (t:Nat)
 | aH (t:Nat)
 | cell (t:Nat) (agg:Bool) (n:Nat)
 | aC (t n:Nat) (p:Bool)
structure CF where
 ntmps:Nat
 res:List RV
 body:CC
inductive Ex where
 | normal
 | exit (id:Nat)
 | ret
def V.ag:V->V
 | .gs sz es=>.sl sz es
 | .ae []=>.ae []
 | .ae _=>.af
 | .bx _ _=>.af
 | .fr _ _=>.af
 | v=>v
def V.tk:V->V
 | .gs sz es=>.gs sz es
 | .fr sz es=>.fr sz es
 | v=>v.ag
def V.mv:V->V
 | .ae vs=>.ae vs
 | v=>v.tk
def V.isJunk:V->Bool
 | .af=>true
 | _=>false
def V.bf:V->Bool
 | .gs _ _ | .fr _ _ | .bx _ _=>true
 | _=>false
def V.isHard:V->Bool
 | .fr _ _ | .bx _ _=>true
 | _=>false
def Kt:V->Bool
 | .ae _=>false
 | _=>true
def XB:V->Option (Nat × List (List V))
 | .gs sz []=>some (sz,[])
 | .fr sz es=>some (sz,es)
 | _=>none
def zaU:V->V
 | .gs sz []=>.fr sz []
 | v=>v
def frz(xs:List Nat)(z:List V):List V:=z.zipIdx.map λp=>if xs.contains p.2 then zaU p.1 else p.1
def V.cells:V->List V
 | .agg cs=>cs
 | v=>[v]
def bY(sz:Nat):Nat->List V->List (List V)
 | 0,_=>[]
 | n+1,cs=>cs.take sz::bY sz n (cs.drop sz)
def V.plain:V->Option V
 | .sc v=>some (.sc v)
 | .agg cs=>some (.agg cs)
 | .sl sz es=>some (.sl sz es)
 | .gs sz es=>some (.sl sz es)
 | .fn f []=>some (.fn f [])
 | _=>none
def V.aN:V->Option V
 | .own id off len sz=>some (.own id off len sz)
 | v=>v.plain
def gS:V->Option Nat
 | .own id _ _ _=>some id
 | _=>none
def wS:V->Bool
 | .ptr _ _=>true
 | _=>false
def V.int?:V->Option Int
 | .sc (.int _ n)=>some n
 | _=>none
def V.bool?:V->Option Bool
 | .sc (.bool b)=>some b
 | _=>none
def B.cs?:B->Option (List V)
 | .live true cs=>some cs
 | .fz cs=>some cs
 | _=>none
def Src.get(Z:St):Src->V
 | .tmp t=>Z.t.getD t .af
 | .const v=>v
def Src.slot:Src->Option Nat
 | .tmp t=>some t
 | .const _=>none
def i4(b:List B):V->Option V
 | .own id off len sz=>do
  let cs <- ((b[id]?).getD .gone).cs?
  pure (.sl sz (bY sz len (cs.drop off)))
 | .gs sz es=>some (.sl sz es)
 | v=>some v
def cq(cs:List V)(off:Nat)(new:List V):List V:=cs.take off++new++cs.drop (off+new.length)
def kF(Z:St):List (Nat × Nat × Src)->List V->Option (List V)
 | [],cs=>some cs
 | (off,n,x)::rest,cs=>do
  let v <- (x.get Z).plain
  if v.cells.length=n/\off+n<=cs.length then kF Z rest (cq cs off v.cells) else none
def nj(Z:St):List (Nat × Nat × Src)->List V->Option (List V)
 | [],cs=>some cs
 | (off,n,x)::rest,cs=>do
  let v <- (x.get Z).aN
  if v.cells.length=n/\off+n<=cs.length then nj Z rest (cq cs off v.cells) else none
def g8(op:BinOp)(x y:Value):Option Value:=
 match op,x,y with
 | .shl,.int k a,.int _ b=>if b<0 then none else some (.int k (k.wrap (a*2 ^ (min b.toNat k.bits))))
 | .shr,.int k a,.int _ b=>if b<0 then none else some (.int k (a.fdiv (2 ^ (min b.toNat k.bits))))
 | op,.int k a,.int k' b=>
  if k≠k' then none else
  match op with
  | .add=>some (.int k (k.wrap (a+b)))
  | .sub=>some (.int k (k.wrap (a-b)))
  | .mul=>some (.int k (k.wrap (a*b)))
  | .quo=>if b=0 then none else some (.int k (k.wrap (a.tdiv b)))
  | .rem=>if b=0 then none else some (.int k (a.tmod b))
  | .and=>some (.int k (k.wrap (BitVec.ofInt k.bits a &&& BitVec.ofInt k.bits b).toNat))
  | .or=>some (.int k (k.wrap (BitVec.ofInt k.bits a ||| BitVec.ofInt k.bits b).toNat))
  | .xor=>some (.int k (k.wrap (BitVec.ofInt k.bits a ^^^ BitVec.ofInt k.bits b).toNat))
  | .andNot=>some (.int k (k.wrap (BitVec.ofInt k.bits a &&& ~~~ BitVec.ofInt k.bits b).toNat))
  | .eql=>some (.bool (a==b))
  | .neq=>some (.bool (a != b))
  | .lss=>some (.bool (decide (a<b)))
  | .leq=>some (.bool (decide (a<=b)))
  | .gtr=>some (.bool (decide (a>b)))
  | .geq=>some (.bool (decide (a>=b)))
  | _=>none
 | .eql,.string a,.string b=>some (.bool (a.toList==b.toList))
 | .neq,.string a,.string b=>some (.bool (!(a.toList==b.toList)))
 | .lss,.string a,.string b=>some (.bool (Op.bytesLess a.toList b.toList))
 | _,_,_=>none
def JM(op:UnOp)(x:Value):Option Value:=
 match op,x with
 | .neg,.int k n=>some (.int k (k.wrap (0-n)))
 | .not,.bool b=>some (.bool !b)
 | .xor,.int k n=>some (.int k (k.wrap (BitVec.ofInt k.bits (if k.signed then -1 else k.max) ^^^ BitVec.ofInt k.bits n).toNat))
 | _,_=>none
def j5:List V->List V->Option Bool
 | [],[]=>some true
 | .sc (.int k a)::xs,.sc (.int k' b)::ys=>if k=k' then (j5 xs ys).map (λr=>(a==b)&&r) else none
 | _,_=>none
def xb:V->V->Option Bool
 | .agg a,.agg b=>if a.length=b.length then j5 a b else none
 | .sc (.int k a),.sc (.int k' b)=>if k=k' then some (a==b) else none
 | .sc (.string a),.sc (.string b)=>some (a==b)
 | _,_=>none
def ue:Nat->V->Bool
 | 0,.sc (.int _ _)=>true
 | 1,.sc (.string _)=>true
 | n+2,.agg cs=>cs.length==n
 | _,_=>false
def DW(key:V):List (V × V)->Option (Option V)
 | []=>some none
 | (k,v)::es=>match xb key k with
  | some true=>some (some v)
  | some false=>DW key es
  | none=>none
def RX(key val:V):List (V × V)->Option (List (V × V))
 | []=>some [(key,val)]
 | (k,v)::es=>match xb key k with
  | some true=>some ((key,val)::es)
  | some false=>(RX key val es).map ((k,v)::·)
  | none=>none
def og:List (List V)->Option (List UInt8)
 | []=>some []
 | [.sc (.int .u8 n)]::es=>(og es).map (UInt8.ofNat n.toNat::·)
 | _=>none
def pp(Z:St)(x:Option Src)(dflt:Nat)(most:Nat):Option Nat:=
 match x with
 | none=>some dflt
 | some s=>match (s.get Z).int? with
  | some i=>if 0<=i/\i<=most then some i.toNat else none
  | none=>none
def j1(Z:St)(len:Nat)(lo hi mx:Option Src):Option (Nat × Nat × Nat):=do
 let m <- pp Z mx len len
 let h <- pp Z hi len m
 let l <- pp Z lo 0 h
 pure (l,h,m)
def cN:Nat:=140737488355328
def LT(sub:Bool)(a b c:Int):Int:=match sub with
 | true=>Wav ((a.toNat+18446744073709551616-b.toNat-c.toNat) % 18446744073709551616)
 | false=>Wav ((a.toNat+b.toNat+c.toNat) % 18446744073709551616)
def MK(sub:Bool)(a b c:Int):Int:=match sub with
 | true=>Wav (if a.toNat<b.toNat+c.toNat then 1 else 0)
 | false=>Wav ((a.toNat+b.toNat+c.toNat) / 18446744073709551616)
def D0:Bool:=Wae 99999 99999
def cJ(Z:St):K->Option V
 | .pick c a b=>do
  let t <- (c.get Z).bool?
  pure (if t then (a.get Z).ag else (b.get Z).ag)
 | .build zero parts=>do pure (.agg (<- kF Z parts zero))
 | .az zero parts=>do pure (.st (<- nj Z parts zero))
 | .nilCheck x=>match (x.get Z) with
  | .ptr id off=>some (.ptr id off)
  | .fp n cs=>some (.fp n cs)
  | .fn f caps=>some (.fn f caps)
  | _=>none
 | .bin op x y=>match x.get Z,y.get Z with
  | .sc a,.sc b=>(g8 op a b).map .sc
  | _,_=>none
 | .aW neg n x y=>match x.get Z,y.get Z with
  | .agg a,.agg b=>if a.length=n/\b.length=n then (j5 a b).map (λr=>.sc (.bool (if neg then !r else r))) else none
  | _,_=>none
 | .bH neg x y=>match (x.get Z).bool?,(y.get Z).bool? with
  | some a,some b=>some (.sc (.bool (if neg then !(a==b) else (a==b))))
  | _,_=>none
 | .bo neg x=>match (x.get Z).ag with
  | .sl _ es=>some (if es.isEmpty then .ub else .sc (.bool neg))
  | _=>none
 | .un op x=>match x.get Z with
  | .sc a=>(JM op a).map .sc
  | _=>none
 | .conv k x=>match (x.get Z).int? with
  | some n=>some (.sc (.int k (k.wrap n)))
  | none=>none
 | .toStr x=>match i4 Z.b (x.get Z) with
  | some (.sl 1 es)=>(og es).map (λl=>.sc (.string ⟨l.toArray⟩))
  | _=>none
 | .bG x=>match x.get Z with
  | .own id off len sz=>match Z.b[id]? with
   | some (.fz cs)=>some (.sl sz (bY sz len (cs.drop off)))
   | some (.live true [])=>if len=0 then some (.sl sz []) else none
   | _=>none
  | _=>none
 | .bk x y=>match i4 Z.b (x.get Z),i4 Z.b (y.get Z) with
  | some (.sl 1 es),some (.sl 1 fs)=>match og es,og fs with
   | some a,some b=>some (.sc (.int .i64 (Lib.compareBytes a b)))
   | _,_=>none
  | _,_=>none
 | .adc sub x y c=>match x.get Z,y.get Z,c.get Z with
  | .sc (.int .u64 a),.sc (.int .u64 b),.sc (.int .u64 d)=>if d=0∨d=1 then some (.ae [.sc (.int .u64 (LT sub a b d)),.sc (.int .u64 (MK sub a b d))]) else none
  | _,_,_=>none
 | .ay n sz x lo hi mx=>do
  let (l,h,m) <- j1 Z n lo hi mx
  match x.get Z with
  | .ptr id off=>match Z.b[id]? with
   | some (.live _ cs)=>if off+n*sz<=cs.length then some (if m=l then .gs sz [] else .own id (off+l*sz) (h-l) sz) else none
   | some (.fz cs)=>if off+n*sz<=cs.length then some (if m=l then .gs sz [] else .sl sz (bY sz (h-l) (cs.drop (off+l*sz)))) else none
   | _=>none
  | .fp q cs=>if n*sz<=q then some (.sl sz (bY sz (h-l) (cs.drop (l*sz)))) else none
  | _=>none
 | .aT sz x lo hi mx=>match (x.get Z).ag with
  | .sl sz' es=>do
   let (l,h,m) <- j1 Z es.length lo hi mx
   if sz=sz' then some (if mx.isSome/\m=l then .fr sz [] else .sl sz ((es.drop l).take (h-l))) else none
  | .own id off len sz'=>do
   let (l,h,m) <- j1 Z len lo hi mx
   if sz=sz' then some (if mx.isSome then (if m=l then .fr sz [] else .af) else .own id (off+l*sz) (h-l) sz) else none
  | .cut id off _ cap sz'=>if hi.isSome/\mx.isNone then do
    let (l,h,_) <- j1 Z cap lo hi none
    if sz=sz' then some (.own id (off+l*sz) (h-l) sz) else none
   else none
  | _=>none
 | .aY sz x hi=>match x.get Z with
  | .own id off len sz'=>do
   let (_,h,_) <- j1 Z len none hi none
   if sz=sz'/\hi.isSome then some (.cut id off h len sz) else none
  | _=>none
 | .aD sz x hi mx=>match (x.get Z).ag,(hi.get Z).int?,(mx.get Z).int? with
  | .sl sz' es,some h,some m=>if 0<=h/\h<=es.length/\h=m/\sz=sz'/\D0=true then some (.gs sz (es.take h.toNat)) else none
  | _,_,_=>none
 | .fieldAddr o x=>match x.get Z with
  | .ptr id off=>some (.ptr id (off+o))
  | .fp n cs=>if o<=n then some (.fp (n-o) (cs.drop o)) else none
  | _=>none
 | .field agg o n x=>match x.get Z with
  | .agg cs=>if agg then some (.agg ((cs.drop o).take n)) else cs[o]?
  | .st cs=>if agg then none else cs[o]?
  | _=>none
 | .al len sz x i=>match (i.get Z).int? with
  | some j=>if 0<=j/\j<len then
    match x.get Z with
    | .ptr id off=>some (.ptr id (off+j.toNat*sz))
    | .fp n cs=>if len*sz<=n then some (.fp (n-j.toNat*sz) (cs.drop (j.toNat*sz))) else none
    | _=>none
   else none
  | none=>none
 | .aj sz x i=>match (i.get Z).int? with
  | some j=>if 0<=j then
    match (x.get Z).ag with
    | .sl sz' es=>if sz=sz' then (es[j.toNat]?).map (λc=>.fp sz c) else none
    | .own id off len sz'=>if sz=sz'/\j<len then some (.ptr id (off+j.toNat*sz)) else none
    | _=>none
   else none
  | none=>none
 | .aR agg len sz x i=>match (i.get Z).int? with
  | some j=>if 0<=j/\j<len then
    match x.get Z with
    | .agg cs=>if agg then some (.agg ((cs.drop (j.toNat*sz)).take sz)) else cs[j.toNat*sz]?
    | _=>none
   else none
  | none=>none
 | .bq n sz x=>match (x.get Z).ag with
  | .sl sz' es=>if sz=sz'/\0<n/\n<=es.length then some (.fp (n*sz) (es.take n).flatten) else none
  | .own id off len sz'=>if sz=sz'/\0<n/\n<=len then some (.ptr id off) else none
  | _=>none
 | .bi x=>match (x.get Z).ag with
  | .sl _ es=>some (.sc (.int .i64 es.length))
  | .own _ _ len _=>some (.sc (.int .i64 len))
  | .cut _ _ len _ _=>some (.sc (.int .i64 len))
  | _=>none
 | .bF x=>match x.get Z with
  | .sc (.string s)=>some (.sc (.int .i64 s.size))
  | _=>none
 | .aJ n=>some (.sc (.int .i64 n))
 | .mm isMax x y=>match x.get Z,y.get Z with
  | .sc (.int k a),.sc (.int _ b)=>some (.sc (.int k (if isMax then (if b>a then b else a) else (if b<a then b else a))))
  | _,_=>none
 | .pull x i=>match x.get Z with
  | .ae vs=>match vs[i]? with
   | some v=>if v.isHard then none else some v.ag
   | none=>none
  | _=>none
 | .makeFunc f caps=>if caps.all (λc=>wS (c.get Z)) then some (.fn f (caps.map (λc=>c.get Z))) else none
 | _=>none
def St.ac(Z:St)(s:Src):St:=
 match s with
 | .tmp t=>{ Z with t:=Z.t.modify t V.ag }
 | .const _=>Z
def St.put(Z:St)(dst:Option Nat)(v:V):St:=
 match dst with
 | some d=>{ Z with t:=Z.t.set d v }
 | none=>Z
def St.ab(Z:St)(id:Nat)(x:B):St:={ Z with b:=Z.b.set id x }
def St.ao(nb:Nat)(Z:St)(dst:Option Nat)(x:B)(v:Nat->V):Option St:=
 match dst with
 | some d=>match Z.b[nb+d]? with
  | some .gone=>some ((Z.ab (nb+d) x).put dst (v (nb+d)))
  | _=>none
 | none=>none
def St.aq(nb:Nat)(Z:St)(dst:Option Nat)(ah:Bool)(sz:Nat)(es:List (List V)):Option St:=
 if ah then Z.ao nb dst (.live true es.flatten) (λid=>.own id 0 es.length sz)
 else some (Z.put dst (.gs sz es))
def wK(mode:Nat)(v:V):Option V:=
 if 2<=mode then match v with
  | .own id off len sz=>some (.own id off len sz)
  | .st cs=>some (.st cs)
  | _=>none
 else none
def wF(Z:St)(s:Src × Nat):Option V:=
 match wK s.2 (s.1.get Z) with
 | some v=>some v
 | none=>match i4 Z.b (s.1.get Z) with
  | some (.ptr id off)=>some (.ptr id off)
  | some (.fp n cs)=>some (.fp n cs)
  | some (.fn f caps)=>some (.fn f caps)
  | some (.mp id)=>some (.mp id)
  | some (.agg cs)=>some (.agg (if s.2 % 2=1 then cs.map V.ag else cs))
  | some v=>v.plain
  | none=>none
def BU(s:Src × Nat):Option V:=
 match s.1 with
 | .const (.gs sz [])=>if 2<=s.2 then some (.fr sz []) else none
 | _=>none
def jh(Z:St)(s:Src × Nat):Option V:=
 match BU s with
 | some v=>some v
 | none=>wF Z s
def fQ(b:List B)(id:Nat):List B:=
 match b[id]? with
 | some (.live true (c::cs))=>b.set id (.fz (c::cs))
 | _=>b
def dG(Z:St):List (Src × Nat)->List B->List B
 | [],b=>b
 | s::rest,b=>dG Z rest (if 2<=s.2 then b else match gS (s.1.get Z) with | some id=>fQ b id | none=>b)
def eg:V->List Nat
 | .ptr id _=>[id]
 | .own id _ _ _=>[id]
 | .cut id _ _ _ _=>[id]
 | .st cs=>cs.filterMap gS
 | .mp id=>[id]
 | .fn _ caps=>caps.filterMap (λ| .ptr id _=>some id | _=>none)
 | _=>[]
def Ut(b:List B)(id:Nat):List Nat:=
 match b[id]? with
 | some (.live false cs)=>cs.flatMap eg
 | _=>[]
def o7(b:List B):Nat->List Nat->List Nat->List Nat
 | 0,_,acc=>acc
 | _,[],acc=>acc
 | n+1,id::todo,acc=>if acc.contains id then o7 b n todo acc else o7 b n (todo++Ut b id) (acc++[id])
def gZ(b:List B)(args:List V):List Nat:=o7 b 40 (args.flatMap eg) []
def fD(ids:List Nat)(id:Nat):Nat:=ids.idxOf id
def zlx(g:Nat->Nat):V->V
 | .ptr id off=>.ptr (g id) off
 | v=>v
def ZD(g:Nat->Nat):V->V
 | .own id off len sz=>.own (g id) off len sz
 | v=>v
def lr(g:Nat->Nat):V->V
 | .ptr id off=>.ptr (g id) off
 | .own id off len sz=>.own (g id) off len sz
 | .cut id off len cap sz=>.cut (g id) off len cap sz
 | .st cs=>.st (cs.map (ZD g))
 | .mp id=>.mp (g id)
 | .fn f caps=>.fn f (caps.map (zlx g))
 | v=>v
def kP(ids:List Nat):V->Bool
 | .sc _ | .sl _ _ | .gs _ _ | .fp _ _ | .af=>true
 | .ptr id _=>ids.contains id
 | .own id _ _ _=>ids.contains id
 | .mp id=>ids.contains id
 | .fn _ caps=>caps.all (λ| .ptr id _=>ids.contains id | _=>false)
 | _=>false
abbrev Bor:=List B
def B.len:B->Nat
 | .live _ cs=>cs.length
 | .dead n=>n
 | _=>0
def B.lend(ids:List Nat):B->Bool
 | .live p cs=>p||cs.all (kP ids)
 | .mp _=>true
 | .dead _=>true
 | _=>false
def B.isRow:B->Bool
 | .live true _=>true
 | .live false [.mp _]=>true
 | .mp _=>true
 | _=>false
def B.isMp:B->Bool
 | .mp _=>true
 | _=>false
def ua:Bor->Bor->Bool
 | [],[]=>true
 | a::l,b::m=>(a.isMp==b.isMp)&&ua l m
 | _,_=>false
def B.aa(g:Nat->Nat):B->B
 | .live p cs=>.live p (if p then cs else cs.map (lr g))
 | x=>x
def oh(b:List B)(ids:List Nat):List Nat->Option Bor
 | []=>some []
 | id::rest=>do
  match b[id]? with
  | some (.live true cs)=>pure (.live true cs::(<- oh b ids rest))
  | some (.live false cs)=>if cs.all (kP ids) then pure (.live false (cs.map (lr (fD ids)))::(<- oh b ids rest)) else none
  | some (.mp es)=>pure (.mp es::(<- oh b ids rest))
  | _=>none
def iF(g:Nat->Nat):List Nat->Bor->List B->List B
 | id::ids,x::bor,b=>iF g ids bor (b.set id (x.aa g))
 | _,_,b=>b
def St.au(nb:Nat)(Z:St)(dst:Option Nat)(ah:Bool)(v:V):Option St:=
 match v with
 | .gs sz es=>if ah then none else some (Z.put dst (.gs sz es))
 | .fr sz es=>Z.aq nb dst ah sz es
 | .bx p cs=>Z.ao nb dst (.live p cs) (λid=>.ptr id 0)
 | v=>some (Z.put dst v)
def yU:V->Bool
 | .ptr _ _ | .ae _ | .cut _ _ _ _ _=>false
 | _=>true
def F5:V->Bool
 | .ae vs=>vs.all yU
 | v=>yU v
def o4:V->List Nat
 | .ae vs=>vs.flatMap eg
 | v=>eg v
def rP(g:Nat->Nat):V->V
 | .ae vs=>.ae (vs.map (lr g))
 | v=>lr g v
def w7(b:List B)(nb:Nat):List Nat->Bool
 | []=>true
 | x::xs=>!(xs.contains x)&&(match b[nb+x]? with | some .gone=>true | _=>false)&&w7 b nb xs
abbrev CB:=Nat->List V->Bor->Option (V × Bor)
def nu(cb:CB)(nb:Nat)(Z:St)(dst:Option Nat)(ah:Bool)(f:Nat)(args:List V)(srcs:List (Src × Nat))(xs:List Nat):Option St:=do
 let σ1:St:={ Z with b:=dG Z srcs Z.b }
 let ids:=gZ σ1.b args
 let bor <- oh σ1.b ids ids
 let (r,bor') <- cb f (args.map (lr (fD ids))) bor
 let ids':=ids++(xs.map (nb+·)).take (bor'.length-ids.length)
 if (bor'.take ids.length).map B.len=bor.map B.len/\bor'.length=ids'.length/\args.all (λa=>(eg a).all ids.contains)/\F5 r/\(o4 r).all (λk=>decide (k<ids'.length))/\bor'.all (B.lend (Waq ids'.length))/\ua (bor'.take ids.length) bor/\(bor'.drop ids.length).all B.isRow/\w7 σ1.b nb xs then
  St.au nb { σ1 with b:=iF (λk=>ids'.getD k 0) ids' bor' σ1.b } dst ah (rP (λk=>ids'.getD k 0) r)
 else none
def yv(b:List B):V->Option V
 | .own id off len sz=>match b[id]? with
  | some (.fz cs)=>some (.sl sz (bY sz len (cs.drop off)))
  | some (.live _ [])=>if len=0 then some (.sl sz []) else none
  | _=>none
 | v=>v.plain
def xc(s:ByteArray):List (List V):=s.data.toList.map λb=>[.sc (.int .u8 (b.toNat:Int))]
def ck(cb:CB)(nb:Nat)(Z:St)(dst:Option Nat)(ah:Bool):K->Option St
 | .move x take=>
  if ah then none else if take then some ((Z.ac x).put dst (x.get Z).mv) else some (Z.put dst (x.get Z).ag)
 | .alloc p cs=>Z.ao nb dst (.live p cs) (λid=>.ptr id 0)
 | .box p x=>match x.get Z with
  | .st cs=>if p then none else Z.ao nb dst (.live false cs) (λid=>.ptr id 0)
  | v=>match v.plain with
   | some v=>Z.ao nb dst (.live p v.cells) (λid=>.ptr id 0)
   | none=>none
 | .buildSlice sz n zero parts=>do
  let cs <- kF Z parts (Wad n zero).flatten
  if n=0/\ah=true then some (Z.put dst (.fr sz [])) else Z.aq nb dst ah sz (bY sz n cs)
 | .ofStr x=>if ah then none else match x.get Z with
  | .sc (.string s)=>some (Z.put dst (.sl 1 (xc s)))
  | _=>none
 | .load agg n a take=>match a.get Z with
  | .ptr id off=>match Z.b[id]? with
   | some (.live p cs)=>
    if agg then
     if off+n<=cs.length then
      if p then some (Z.put dst (.agg ((cs.drop off).take n)))
      else if take then do
       let vs <- ((cs.drop off).take n).mapM V.aN
       some (Z.put dst (.st vs))
      else do
       let vs <- ((cs.drop off).take n).mapM V.plain
       some (Z.put dst (.agg vs))
     else none
    else match cs[off]? with
     | some v=>if take then (if p then none else some ((Z.ab id (.live p (cs.set off v.ag))).put dst v.tk)) else some (Z.put dst v.ag)
     | none=>none
   | some (.fz cs)=>
    if agg then (if off+n<=cs.length then some (Z.put dst (.agg ((cs.drop off).take n))) else none)
    else match cs[off]? with
     | some v=>some (Z.put dst v)
     | none=>none
   | _=>none
  | .fp m cs=>
   if agg then (if n<=m then some (Z.put dst (.agg (cs.take n))) else none)
   else match cs[0]? with
    | some v=>some (Z.put dst v)
    | none=>none
  | _=>none
 | .store n a x=>if dst.isSome then none else match a.get Z with
  | .ptr id off=>match Z.b[id]? with
   | some (.live true cs)=>do
    let v <- (x.get Z).plain
    if v.cells.length=n/\off+n<=cs.length then some (Z.ab id (.live true (cq cs off v.cells))) else none
   | some (.live false cs)=>
    match x.get Z with
    | .agg us=>if us.length=n/\off+n<=cs.length then some (Z.ab id (.live false (cq cs off us))) else none
    | .st us=>if us.length=n/\off+n<=cs.length then some (Z.ab id (.live false (cq cs off us))) else none
    | .ae _=>none
    | .bx _ _=>none
    | .af=>none
    | v=>if n=1/\off<cs.length then some ((Z.ac x).ab id (.live false (cs.set off v))) else none
   | _=>none
  | _=>none
 | .makeSlice sz bytes zero l c=>match (l.get Z).int?,(c.get Z).int? with
  | some l,some c=>if 0<=l/\l<=c/\c.toNat*bytes<=cN/\c<=cN then (if ah then Z.ao nb dst (.live true (Wad c.toNat zero).flatten) (λid=>.own id 0 l.toNat sz) else Z.aq nb dst false sz (Wad l.toNat zero)) else none
  | _,_=>none
 | .append sz bytes s x=>match s.get Z,i4 Z.b (x.get Z) with
  | .gs sz1 es,some (.sl sz2 es2)=>
   if sz1=sz/\(sz2=sz∨es2=[])/\(es.length+es2.length)*bytes<=cN/\es.length+es2.length<=cN then
    if ah then (match s,es with
     | .const _,[]=>Z.aq nb dst true sz es2
     | _,_=>none)
    else some ((Z.ac s).put dst (.gs sz (es++es2)))
   else none
  | .fr sz1 [],some (.sl sz2 es2)=>
   if sz1=sz/\(sz2=sz∨es2=[])/\(0+es2.length)*bytes<=cN/\0+es2.length<=cN then (Z.ac s).aq nb dst ah sz es2
   else none
  | .own id off len sz1,some (.sl sz2 es2)=>match Z.b[id]? with
   | some (.live true cs)=>
    if sz1=sz/\(sz2=sz∨es2=[])/\off=0/\(len+es2.length)*bytes<=cN/\len+es2.length<=cN/\(len+es2.length≠0∨cs.length=0) then
     (Z.ab id (.dead cs.length)).ao nb dst (.live true (cs.take (len*sz)++es2.flatten)) (λid'=>.own id' 0 (len+es2.length) sz)
    else none
   | _=>none
  | .cut id off len cap sz1,some (.sl sz2 es2)=>match Z.b[id]? with
   | some (.live true cs)=>
    if sz1=sz/\(sz2=sz∨es2=[])/\off=0/\len+es2.length<=cap/\ah=false then
     some ((Z.ab id (.live true (cq cs (len*sz) es2.flatten))).put dst (.cut id 0 (len+es2.length) cap sz))
    else none
   | _=>none
  | _,_=>none
 | .aM sz bytes s x=>if ah then none else match XB (s.get Z),i4 Z.b (x.get Z) with
  | some (sz1,es),some (.sl sz2 es2)=>
   if sz1=sz/\(sz2=sz∨es2=[])/\(es.length+es2.length)*bytes<=cN/\es.length+es2.length<=cN/\es.length+es2.length≠0 then some ((Z.ac s).put dst (.fr sz (es++es2))) else none
  | _,_=>none
 | .bj p sz a=>match a.get Z with
  | .ptr id off=>match Z.b[id]? with
   | some (.live false cs)=>match cs[off]? with
    | some (.fr sz1 es)=>match dst with
     | some d=>if sz1=sz then (Z.ab id (.live false (cs.set off (.own (nb+d) 0 es.length sz)))).ao nb dst (.live p es.flatten) (λid'=>.own id' 0 es.length sz) else none
     | none=>none
    | _=>none
   | _=>none
  | _=>none
 | .aX n a x xs=>if dst.isSome then none else match a.get Z with
  | .ptr id off=>match Z.b[id]? with
   | some (.live false cs)=>match x.get Z with
    | .st us=>if us.length=n/\off+n<=cs.length then some (Z.ab id (.live false (cq cs off (frz xs us)))) else none
    | _=>none
   | _=>none
  | _=>none
 | .aE n a=>match a.get Z with
  | .ptr id off=>match Z.b[id]? with
   | some (.live false cs)=>if off+n<=cs.length then do
     let vs <- ((cs.drop off).take n).mapM (yv Z.b)
     some (Z.put dst (.agg vs))
    else none
   | _=>none
  | _=>none
 | .bh p sz x=>match x.get Z with
  | .fr sz1 es=>match x,dst with
   | .tmp t,some d=>if sz1=sz/\t≠d then (Z.put (some t) (.own (nb+d) 0 es.length sz)).ao nb dst (.live p es.flatten) (λid'=>.own id' 0 es.length sz) else none
   | _,_=>none
  | _=>none
 | .aO sz bytes zero s x=>match s.get Z,(x.get Z).int? with
  | .gs sz1 es,some n=>
   if sz1=sz/\0<=n/\(es.length+n.toNat)*bytes<=cN/\es.length+n.toNat<=cN then
    if ah then none else (Z.ac s).aq nb dst false sz (es++Wad n.toNat zero)
   else none
  | _,_=>none
 | .copy sz d s=>match d.get Z,i4 Z.b (s.get Z) with
  | .own id off len sz1,some (.sl sz2 es)=>match Z.b[id]? with
   | some (.live true cs)=>
    if sz1=sz/\sz2=sz then
     some ((Z.ab id (.live true (cq cs off (es.take (min es.length len)).flatten))).put dst (.sc (.int .i64 ((min es.length len:Nat):Int))))
    else none
   | _=>none
  | _,_=>none
 | .clear sz zero x=>match x.get Z with
  | .own id off len sz1=>match Z.b[id]? with
   | some (.live true cs)=>if sz1=sz then some ((Z.ab id (.live true (cq cs off (Wad len zero).flatten))).put dst (.ae [])) else none
   | _=>none
  | _=>none
 | .extract x i=>match x.get Z with
  | .ae vs=>match vs[i]?,x with
   | some v,.tmp t=>
    if vs.all Kt/\dst≠some t then
     if v.bf then St.au nb { Z with t:=Z.t.set t (.ae (vs.set i .af)) } dst ah v
     else if (ah&&!v.isJunk)=true then none else some (Z.put dst v.ag)
    else none
   | _,_=>none
  | _=>none
 | .call f args xs=>do
  let vs <- args.mapM (jh Z)
  nu cb nb Z dst ah f vs args xs
 | .aQ f args xs=>match f.get Z with
  | .fn g caps=>do
   let vs <- args.mapM (jh Z)
   nu cb nb Z dst ah g (vs++caps) args xs
  | _=>none
 | .makeMap=>Z.ao nb dst (.mp []) (λid=>.mp id)
 | .bE sz id=>match Z.b[nb+id]? with
  | some .gone=>some ((Z.ab (nb+id) (.live true [])).put dst (.own (nb+id) 0 0 sz))
  | _=>none
 | .a9 kd ok zero x k=>match x.get Z with
  | .mp id=>match Z.b[id]? with
   | some (.mp es)=>if ue kd (k.get Z) then do
     let r <- DW (k.get Z) es
     pure (Z.put dst (if ok then .ae [r.getD zero,.sc (.bool r.isSome)] else r.getD zero))
    else none
   | _=>none
  | _=>none
 | .bz kd x k v=>if dst.isSome then none else match x.get Z with
  | .mp id=>match Z.b[id]? with
   | some (.mp es)=>if ue kd (k.get Z) then do
     let val <- (v.get Z).plain
     let es' <- RX (k.get Z) val es
     pure (Z.ab id (.mp es'))
    else none
   | _=>none
  | _=>none
 | .bC x=>match x.get Z with
  | .mp id=>match Z.b[id]? with
   | some (.mp es)=>some (Z.put dst (.sc (.int .i64 es.length)))
   | _=>none
  | _=>none
 | .a8 x=>if ah then none else match x.get Z with
  | .own id off len sz=>match Z.b[id]? with
   | some (.live true cs)=>if off=0/\len*sz<=cs.length/\cs.length≠0 then some ((Z.ab id (.dead cs.length)).put dst (.gs sz (bY sz len cs))) else none
   | _=>none
  | .gs sz es=>some ((Z.ac x).put dst (.gs sz es))
  | _=>none
 | k=>(cJ Z k).map (λv=>Z.put dst v)
def iS(Z:St):Option (Nat × Bool)->Option Bool
 | none=>some true
 | some (j,want)=>match Z.t[j]? with
  | some (.sc (.bool b))=>some (b==want)
  | some (.ae [])=>some false
  | _=>none
def dz(cb:CB)(nb:Nat)(Z:St)(o:COp):Option St:=
 match iS Z o.guard with
 | some true=>ck cb nb Z o.dst o.ah o.k
 | some false=>some (Z.put o.dst (.ae []))
 | none=>none
def pQ(cb:CB)(nb:Nat):List COp->St->Option St
 | [],Z=>some Z
 | o::rest,Z=>(dz cb nb Z o).bind (pQ cb nb rest)
def qS(dead:Nat->Bool):V->V
 | .ptr id off=>if dead id then .af else .ptr id off
 | .own id off len sz=>if dead id then .af else .own id off len sz
 | .mp id=>if dead id then .af else .mp id
 | .st cs=>if cs.any (λ| .own id _ _ _=>dead id | _=>false) then .af else .st cs
 | .cut id off len cap sz=>if dead id then .af else .cut id off len cap sz
 | .fn f caps=>if caps.any (λ| .ptr id _=>dead id | _=>true) then .af else .fn f caps
 | .ae []=>.ae []
 | .ae _=>.af
 | v=>v
def xj(dead:Nat->Bool):List Bool->List V->List V
 | k::ks,v::vs=>(if k then qS dead v else .af)::xj dead ks vs
 | [],vs=>vs.map (λ_=>.af)
 | _,[]=>[]
def zd3(dead:Nat->Bool):B->B
 | .live false cs=>.live false (cs.map (qS dead))
 | x=>x
def D1(dead:Nat->Bool):List Bool->List B->List B
 | k::ks,v::vs=>(if k then zd3 dead v else .gone)::D1 dead ks vs
 | [],vs=>vs.map (λ_=>.gone)
 | _,[]=>[]
def mask(kt kb:List Bool)(Z:St):St:=
 ⟨xj (λid=>!(kb.getD id false)) kt Z.t,D1 (λid=>!(kb.getD id false)) kb Z.b⟩
def f4(nb:Nat)(kt kb:List Bool)(Z:St):St:=mask kt (Wad nb true++kb) Z
def qx(body:St->Option (Ex × St))(norm:St->St):Nat->St->Option (Ex × St)
 | 0,_=>none
 | n+1,Z=>match body (norm Z) with
  | some (.normal,σ')=>qx body norm n σ'
  | r=>r
def eN:K->Bool
 | .pick .. | .adc .. | .build .. | .az .. | .nilCheck _ | .bin .. | .aW .. | .bH .. | .bo .. | .un .. | .conv .. | .aT .. | .aY .. | .aD .. | .fieldAddr .. | .field .. | .al .. | .aj .. | .aR .. | .bq .. | .bi _ | .bF _ | .aJ _ | .mm .. | .pull .. | .makeFunc ..=>true
 | .move _ take=>!take
 | _=>false
def zh0:Option B->Bool
 | some (.fz _)=>true
 | _=>false
def zdG:V->Bool
 | .cut _ _ _ _ _=>true
 | _=>false
def od(b:List B):V->Bool
 | .cut _ _ _ _ _=>false
 | .own id _ _ _=>zh0 b[id]?
 | .ptr _ _=>false
 | .mp _=>false
 | .st _=>false
 | .fn _ caps=>caps.isEmpty
 | _=>true
def j7(Z:St)(o:COp)(σ':St):Bool:=
 match iS Z o.guard with
 | some true=>match o.k with
  | .load agg _ _ take=>agg||!take
  | .toStr _ | .ofStr _ | .bG _ | .aE .. | .bk .. | .ay .. | .move .. | .a9 .. | .bC _=>true
  | .buildSlice .. | .makeSlice ..=>!o.ah
  | .append _ _ s _=>!o.ah&&(gS (s.get Z)).isNone&&!zdG (s.get Z)
  | .call _ args xs=>!o.ah&&xs.isEmpty&&args.all (λs=>decide (s.2<2)&&od Z.b (s.1.get Z))&&(match o.dst with | some d=>(match σ'.t[d]? with | some v=>!wS v | none=>false) | none=>false)
  | .extract x i=>!o.ah&&match x.get Z with
   | .ae vs=>match vs[i]? with
    | some (.bx _ _)=>false
    | some _=>true
    | none=>false
   | _=>false
  | k=>eN k
 | some false=>true
 | none=>false
def hI:K->Bool
 | .load agg _ _ take=>agg||!take
 | _=>false
def zhf:K->Bool
 | .aE _ _=>true
 | _=>false
def WE(k:K):Bool:=hI k||zhf k
def TN(b:List B)(id off n:Nat):List Nat:=match b[id]? with
 | some (.live false cs)=>((cs.drop off).take n).filterMap gS
 | _=>[]
def jA(nb:Nat)(Z:St)(dst:Option Nat)(args:List V)(srcs:List (Src × Nat))(xs:List Nat):List Nat:=
 gZ (dG Z srcs Z.b) args++srcs.filterMap (λs=>gS (s.1.get Z))++xs.map (nb+·)++dst.toList.map (nb+·)
def BJ(nb:Nat)(Z:St)(o:COp)(id:Nat):Bool:=
 eN o.k||hI o.k||match iS Z o.guard with
  | some false=>true
  | _=>match o.k with
   | .call _ args xs=>match args.mapM (jh Z) with
    | some vs=>!((jA nb Z o.dst vs args xs).contains id)
    | none=>false
   | .alloc _ _=>!((o.dst.toList.map (nb+·)).contains id)
   | .box _ _=>!((o.dst.toList.map (nb+·)).contains id)
   | _=>false
def uo(nb:Nat)(Z:St)(o:COp):List Nat->Bool
 | []=>true
 | r::w=>(match Z.t[r]? with
  | some (.ptr id _)=>BJ nb Z o id
  | some (.fp _ _)=>true
  | _=>false)&&uo nb Z o w
def uE(Z:St)(o:COp)(r:Nat):Bool:=
 hI o.k&&match o.k with
  | .load _ _ (.tmp p) _=>match Z.t[p]?,Z.t[r]? with
   | some (.ptr id _),some (.ptr id' _)=>Wae id id'
   | some (.fp _ _),_=>true
   | _,_=>false
  | _=>false
def Cd:V->Bool
 | .sc _ | .agg _ | .sl _ _ | .gs _ _ | .fp _ _=>true
 | .fn _ caps=>caps.isEmpty
 | _=>false
def xg(Z:St)(o:COp)(σ':St):Bool:=
 match iS Z o.guard with
 | some false=>true
 | some true=>match o.k,o.dst with
  | .call _ args xs,some d=>!o.ah&&xs.isEmpty&&args.all (λs=>decide (s.2<2)&&Cd (s.1.get Z))&&(match σ'.t[d]? with | some v=>!wS v | none=>false)
  | _,_=>false
 | none=>false
def kOf(nb:Nat)(Z:St)(o:COp):Option (List Nat):=
 match iS Z o.guard with
 | none=>none
 | some false=>some []
 | some true=>match o.k with
  | .load _ _ a _=>match a.get Z with
   | .ptr id _=>some [id]
   | .fp _ _=>some []
   | _=>none
  | .aE n a=>match a.get Z with
   | .ptr id off=>some (id::TN Z.b id off n)
   | _=>none
  | .store _ a _=>match a.get Z with
   | .ptr id _=>some [id]
   | _=>none
  | .alloc _ _ | .box _ _=>o.dst.map λd=>[nb+d]
  | .buildSlice .. | .makeSlice .. | .extract ..=>o.dst.map λd=>[nb+d]
  | .move _ _=>some []
  | .append _ _ s x=>match s.get Z,x.get Z with
   | _,.own _ _ _ _=>none
   | .gs _ _,_=>o.dst.map λd=>[nb+d]
   | .fr _ _,_=>o.dst.map λd=>[nb+d]
   | _,_=>none
  | .call _ args xs=>match args.mapM (jh Z) with
   | some vs=>some (jA nb Z o.dst vs args xs)
   | none=>none
  | .aQ f args xs=>match f.get Z with
   | .fn _ caps=>match args.mapM (jh Z) with
    | some vs=>some (jA nb Z o.dst (vs++caps) args xs)
    | none=>none
   | _=>none
  | _=>none
def BE:V->Option Nat
 | .ptr id _=>some id
 | .own id _ _ _=>some id
 | _=>none
def zbm:V->Bool
 | .fp _ _=>true
 | .sl _ _=>true
 | .gs _ _=>true
 | _=>false
def O0(Z:St)(r id:Nat):Bool:=match Z.t[r]? with
 | some v=>(match BE v with | some id'=>Wae id id' | none=>false)
 | none=>false
def yD(Z:St)(K:List Nat)(r:Nat):Bool:=match Z.t[r]? with
 | some v=>(match BE v with | some id=>!K.contains id | none=>zbm v)
 | none=>false
def Ji(o:COp):Option Nat:=match o.dst with
 | some d=>some d
 | none=>match o.k with
  | .store _ (.tmp p) _=>some p
  | _=>none
def ux(nb:Nat)(Z:St)(o:COp)(fl:Fl):Bool:=match kOf nb Z o with
 | some K=>(match fl.root with | some r=>K.all (O0 Z r) | none=>true)&&(!fl.nw||(match Ji o with | some d=>K.all (λid=>Wae id (nb+d)) | none=>false))&&fl.w.all (yD Z K)&&fl.wn.all (λn=>!K.contains (nb+n))
 | none=>false
def kW(nb:Nat)(Z:St)(o:COp)(fl:Fl)(σ':St):Bool:=
 cond fl.l (ux nb Z o fl) <| cond fl.s (xg Z o σ') <| (!fl.q||j7 Z o σ')&&(match fl.root with | none=>true | some r=>uE Z o r)&&uo nb Z o fl.w
def zaa:V->Bool
 | .gs _ _ | .fr _ _=>true
 | _=>false
def BT(fl:Fl)(o:COp)(σ':St):Bool:=!fl.tk||(match o.dst with | some d=>(match σ'.t[d]? with | some v=>zaa v | none=>false) | none=>false)
def flT(nb:Nat)(Z:St)(o:COp)(fl:Fl)(σ':St):Bool:=kW nb Z o fl σ'&&BT fl o σ'
def vr(cb:CB)(nb:Nat):List (COp × Fl)->St->Option St
 | [],Z=>some Z
 | (o,q)::rest,Z=>match dz cb nb Z o with
  | some σ'=>if flT nb Z o q σ' then vr cb nb rest σ' else none
  | none=>none
def zd5:V->V->Bool
 | .af,.af=>true
 | .ub,.ub=>true
 | .ae [],.ae []=>true
 | .gs a [],.gs b []=>Wae a b
 | .sl a [],.sl b []=>Wae a b
 | .own a o l s,.own a' o' l' s'=>Wae a a'&&Wae o o'&&Wae l l'&&Wae s s'
 | _,_=>false
def OV:List V->List V->Bool
 | [],[]=>true
 | a::l,b::m=>zd5 a b&&OV l m
 | _,_=>false
def GM:List B->List B->Bool
 | [],[]=>true
 | .gone::l,.gone::m=>GM l m
 | .live true []::l,.live true []::m=>GM l m
 | _,_=>false
def VV:Option (Ex × St)->Option (Ex × St)->Bool
 | some (.ret,Z),some (.ret,τ)=>OV Z.t τ.t&&GM Z.b τ.b
 | some (.normal,Z),some (.normal,τ)=>OV Z.t τ.t&&GM Z.b τ.b
 | _,_=>false
theorem zhk:∀ {a b:V},zd5 a b=true->a=b:=by
 intro a b h;unfold zd5 at h;split at h
 ·rfl
 ·rfl
 ·rfl
 ·rw [Wao h]
 ·rw [Wao h]
 ·simp_all
 ·cases h
theorem Nu:∀ {a b:List V},OV a b=true->a=b
 | [],[],_=>rfl
 | [],_::_,h=>by cases h
 | _::_,[],h=>by cases h
 | a::l,b::m,h=>by
  simp [OV] at h;rw [zhk h.1,Nu h.2]
theorem I9:∀ {a b:List B},GM a b=true->a=b
 | [],[],_=>rfl
 | [],b::_,h=>by simp [GM] at h
 | a::l,c,h=>by
  unfold GM at h;split at h
  ·rename_i e; cases e
  ·rename_i e; cases e; rw [I9 h]
  ·rename_i e; cases e; rw [I9 h]
  ·cases h
theorem Sd{r s:Option (Ex × St)}(h:VV r s=true):r=s:=by
 unfold VV at h;split at h
 ·rename_i Z τ;simp at h;have h1:=Nu h.1;have h2:=I9 h.2;cases Z; cases τ; simp_all
 ·rename_i Z τ;simp at h;have h1:=Nu h.1;have h2:=I9 h.2;cases Z; cases τ; simp_all
 ·cases h
def ZA(r s:Option (Ex × St)):Bool:=VV r s&&(match s with | some (.ret,_)=>true | _=>false)
theorem SE{r s:Option (Ex × St)}(h:ZA r s=true):r=s/\∃ Z,s=some (.ret,Z):=by
 simp [ZA] at h
 grind [Sd]
def ko(b:List B)(id:Nat):List B:=match b[id]? with
 | some (.live false (c::cs))=>match (c::cs).mapM (yv b) with
  | some vs=>b.set id (.fz vs)
  | none=>b
 | _=>b
def tX(nb:Nat):List Nat->St->St
 | [],Z=>Z
 | d::fz,Z=>match Nat.blt d 100000 with
  | true=>tX nb fz { Z with b:=fQ Z.b (nb+d) }
  | false=>tX nb fz { Z with b:=ko Z.b (nb+(d-100000)) }
def run(cb:CB)(nb:Nat)(L:Nat):CC->St->Option (Ex × St)
 | .skip,Z=>some (.normal,Z)
 | .bw ops,Z=>(pQ cb nb ops Z).map (λZ=>(.normal,Z))
 | .bu fz ops,Z=>(vr cb nb ops (tX nb fz Z)).map (λZ=>(.normal,Z))
 | .seq a b,Z=>match run cb nb L a Z with
  | some (.normal,σ')=>run cb nb L b σ'
  | r=>r
 | .fork p c a b,Z=>match run cb nb L p Z with
  | some (.normal,σ')=>match c.get σ' with
   | .ub=>if ZA (run cb nb L a σ') (run cb nb L b σ') then run cb nb L b σ' else none
   | v=>match v.bool? with
    | some true=>match run cb nb L a σ' with
     | some (.normal,σ2)=>run cb nb L b σ2
     | r=>r
    | some false=>run cb nb L b σ'
    | none=>none
  | r=>r
 | .cond c a b,Z=>match c.get Z with
  | .ub=>if VV (run cb nb L a Z) (run cb nb L b Z) then run cb nb L b Z else none
  | v=>match v.bool? with
   | some t=>if t then run cb nb L a Z else run cb nb L b Z
   | none=>none
 | .block id a,Z=>match run cb nb L a Z with
  | some (.exit j,σ')=>if j=id then some (.normal,σ') else some (.exit j,σ')
  | r=>r
 | .loop kt kb a,Z=>qx (run cb nb L a) (f4 nb kt kb) L Z
 | .mask kt kb,Z=>some (.normal,f4 nb kt kb Z)
 | .exit id,Z=>some (.exit id,Z)
 | .ret,Z=>some (.ret,Z)
def Vv(nb:Nat)(b:List B):V->Option V
 | .own id off len sz=>if nb<=id then match b[id]? with
   | some (.live true cs)=>some (.sl sz (bY sz len (cs.drop off)))
   | some (.fz cs)=>some (.sl sz (bY sz len (cs.drop off)))
   | _=>none
  else none
 | v=>v.plain
def ziF(b:List B)(c:Nat):Option Nat:=match b[c]? with
 | some (.live false [.mp m])=>some m
 | _=>none
def Vn(b:List B)(nb id:Nat):Bool:=decide (nb<=id)&&(match b[id]? with | some (.mp _)=>true | _=>false)
def Z7(nb:Nat)(b:List B):List V->Bool
 | [.ptr c off]=>decide (off=0/\nb<=c)&&(match ziF b c with | some m=>Vn b nb m | none=>false)
 | _=>false
def lq(b:List B):V->List Nat
 | .fn _ [.ptr c _]=>(ziF b c).toList
 | _=>[]
def m8(b:List B)(v:V):List Nat:=eg v++lq b v
def LS(b:List B):V->List Nat
 | .ae vs=>vs.flatMap (m8 b)
 | v=>m8 b v
def gH(nb:Nat)(Z:St):RV->Option V
 | .tmp t=>match Z.t.getD t .af with
  | .own id off len sz=>if nb<=id then (if off=0/\0<sz then match Z.b[id]? with
    | some (.live true cs)=>if len≠0∨cs.length=0 then some (.fr sz (bY sz len cs)) else none
    | _=>none
   else none) else some (.own id off len sz)
  | .ptr id off=>if off=0/\nb<=id then match Z.b[id]? with
    | some (.live p cs)=>if cs.length≠0 then (if p then some (.bx p cs) else (cs.mapM V.plain).map (.bx p)) else none
    | _=>none
   else none
  | .cut id off len _ sz=>if nb<=id then none else some (.own id off len sz)
  | .sc v=>some (.sc v)
  | .agg cs=>some (.agg cs)
  | .sl sz es=>some (.sl sz es)
  | .gs sz es=>some (.gs sz es)
  | .st cs=>some (.st cs)
  | .mp id=>if Vn Z.b nb id then some (.mp id) else none
  | .fn f caps=>if Z7 nb Z.b caps then some (.fn f caps) else none
  | _=>none
 | .aH t=>match Z.t.getD t .af with
  | .own id off len sz=>if nb<=id/\off=0/\0<sz then match Z.b[id]? with
    | some (.live true cs)=>some (.gs sz (bY sz len cs))
    | _=>none
   else none
  | .st cs=>(cs.mapM (Vv nb Z.b)).map .agg
  | .sc v=>some (.sc v)
  | .agg cs=>some (.agg cs)
  | .sl sz es=>some (.sl sz es)
  | .gs sz es=>some (.gs sz es)
  | _=>none
 | .cell t agg n=>match Z.t.getD t .af with
  | .ptr id off=>match Z.b[id]? with
   | some (.live p cs)=>
    if agg then
     if off=0/\cs.length=n/\n≠0 then (if p then some (.agg cs) else (cs.mapM V.plain).map .agg) else none
    else if n=1/\off=0 then (cs[0]?).bind V.plain else none
   | _=>none
  | _=>none
 | .aC _ _ _=>none
def RV.slot:RV->Option Nat
 | .tmp t=>some t
 | .aH t=>some t
 | .cell _ _ _=>none
 | .aC _ _ _=>none
def RV.low(n:Nat):RV->Bool
 | .tmp t=>decide (t<n)
 | .aH t=>decide (t<n)
 | .cell t _ _=>decide (t<n)
 | .aC _ _ _=>false
def RV.boxed(cs rp:Bool):RV->RV
 | .cell t true n=>if cs then .aC t n rp else .cell t true n
 | r=>r
def po(n0:Nat):List RV->St->Option (St × List RV)
 | [],Z=>some (Z,[])
 | .aC t n p::rest,Z=>match Z.t[t]? with
  | some (.ptr id off)=>match Z.b[id]? with
   | some (.live false cs)=>if t<n0/\off=0/\cs.length=n/\n≠0 then match cs.mapM V.aN with
     | some vs=>match po n0 rest { Z with t:=Z.t++[.st vs] } with
      | some (σ1,rs)=>some (σ1,(if p then .aH Z.t.length else .tmp Z.t.length)::rs)
      | none=>none
     | none=>none
    else none
   | some (.live true _)=>if t<n0 then match po n0 rest Z with
     | some (σ1,rs)=>some (σ1,.cell t true n::rs)
     | none=>none
    else none
   | _=>none
  | _=>none
 | r::rest,Z=>if r.low n0 then match po n0 rest Z with
   | some (σ1,rs)=>some (σ1,r::rs)
   | none=>none
  else none
def uC:List RV->Bool
 | []=>true
 | r::rest=>(match r.slot with | some t=>rest.all (λq=>match q.slot with | some u=>t != u | none=>true) | none=>true)&&uC rest
def jM(nb:Nat)(b:List B):V->List Nat
 | .own id _ _ _=>if nb<=id then [id] else []
 | .ptr id _=>[id]
 | .st cs=>(cs.filterMap gS).filter (λid=>decide (nb<=id))
 | .mp id=>[id]
 | .fn f caps=>m8 b (.fn f caps)
 | _=>[]
def q7(nb:Nat)(Z:St):List RV->List Nat
 | []=>[]
 | r::rest=>(match r.slot with | some t=>jM nb Z.b (Z.t.getD t .af) | none=>[])++q7 nb Z rest
def oJ:List Nat->Bool
 | []=>true
 | x::xs=>!xs.contains x&&oJ xs
def results(nb:Nat)(Z:St)(rs:List RV):Option V:=
 if uC rs&&oJ (q7 nb Z rs) then
  match rs with
  | [r]=>gH nb Z r
  | rs=>(rs.mapM (gH nb Z)).map .ae
 else none
def nZ(b:List B)(nb:Nat)(r:V):List Nat:=Waq nb++(LS b r).filter (λid=>decide (nb<=id))
def zb(b:List B)(nb:Nat)(ids:List Nat):List Nat->Option Bor
 | []=>some []
 | id::rest=>match b[id]? with
  | some x=>if x.lend ids&&(decide (id<nb)||x.isRow) then (zb b nb ids rest).map (x.aa (fD ids)::·) else none
  | none=>none
def KD(nb:Nat)(Z:St)(rs:List RV):Option (V × Bor):=do
 let r <- results nb Z rs
 let b <- zb Z.b nb (nZ Z.b nb r) (nZ Z.b nb r)
 if oJ (nZ Z.b nb r) then pure (rP (fD (nZ Z.b nb r)) r,b) else none
def EE(nb:Nat)(Z:St)(rs:List RV):Option (V × Bor):=match po Z.t.length rs Z with
 | some (σ1,rs1)=>KD nb σ1 rs1
 | none=>none
def enter(nt:Nat)(args:List V)(bor:Bor):St:=
 ⟨args++Wad (nt-args.length) (.ae []),bor++Wad nt .gone⟩
def frN(g:Nat):Bool:=Wae g 99999
def zdz:V->Bool
 | .sc _=>true
 | _=>false
def Zq:V->Bool
 | .sc _ | .agg _ | .sl _ _=>true
 | _=>false
def zdU(es:List (List V)):Bool:=!D0&&(!es.isEmpty&&es.flatten.all zdz)
def zea:V->Option V
 | .gs sz es=>some (if zdU es=true then .fr sz es else .af)
 | .ae (.gs sz es::vs)=>if vs.all zdz=true then some (if zdU es=true then .ae (.fr sz es::vs) else .ae (.af::vs)) else none
 | _=>none
def wR(cb:CB):CB:=λg args bor=>match frN g with
 | false=>cb g args bor
 | true=>match bor with
  | []=>match args.all Zq with
   | true=>match cb g args [] with
    | some (r,[])=>match zea r with
     | some r'=>some (r',[])
     | none=>none
    | _=>none
   | false=>none
  | _=>none
def evF(T:Nat->Option CF)(pr:CB)(L:Nat):Nat->Nat->List V->Bor->Option (V × Bor)
 | 0,_,_,_=>none
 | d+1,f,args,bor=>match T f with
  | none=>pr f args bor
  | some c=>match run (wR (evF T pr L d)) bor.length L c.body (enter c.ntmps args bor) with
   | some (.normal,Z) | some (.ret,Z)=>EE bor.length Z c.res
   | _=>none
def Zs:Nat->Option (Nat × Nat)
 | 316=>some (3,24)
 | 399=>some (5,24)
 | 550=>some (38,96)
 | _=>none
def zlK(sz n m i:Nat)(cs vs:List V):List (List V):=bY sz (n+m) (cs.take (i*sz)++vs++(cs.take (n*sz)).drop (i*sz))
abbrev ziv(sz bytes n m:Nat)(i:Int)(cs vs:List V):Prop:=0<=i/\i<=n/\0<m/\n*sz<=cs.length/\vs.length=m*sz/\(n+m)*bytes<=cN/\n+m<=cN
def C4:CB:=λg args bor=>match args,bor with
 | [.fr 1 [],.sc (.int .i64 n)],[]=>if g=459/\0<=n/\n<=1000000000 then some (.gs 1 [],[]) else none
 | [.own 0 0 n s1,.sc (.int .i64 i),.own 1 0 m s2],[.live true cs,.live true vs]=>match Zs g with
  | some (sz,bytes)=>if s1=sz/\s2=sz/\ziv sz bytes n m i cs vs then some (.fr sz (zlK sz n m i.toNat cs vs),[.dead cs.length,.live true vs]) else none
  | none=>none
 | _,_=>none
abbrev QQa(n:Int):V:=V.sc (.int .u8 n)
abbrev QQb(n:Int):V:=V.sc (.int .u16 n)
abbrev QQc(n:Int):V:=V.sc (.int .u32 n)
abbrev QQd(n:Int):V:=V.sc (.int .u64 n)
abbrev QQe(n:Int):V:=V.sc (.int .i64 n)
end
section
abbrev Ls:=List (List V)
abbrev Lm:=List (V × V)
abbrev Ob(Y:Type):=Option Y
variable {t:TypeId}{take:Bool}{xs:List Nat}{k:K}
abbrev Msk:=Option (List Bool × List Bool)
structure Hint where
 take:List (Nat × Nat)
 ah:List (Nat × Nat)
 masks:List Msk
 fz:List (Nat × List Nat):=[]
 xs:List (Nat × Nat × List Nat):=[]
 rp:Bool:=false
 cs:Bool:=false
 rt:List (Nat × Nat):=[]
structure Rn where
 f:Nat->Option Nat
 g:Nat->Option (List V)
instance:CoeFun Rn (λ_=>Nat->Option Nat):=⟨Rn.f⟩
section
variable (P:Program) (aa:Rn)
def eJ(t:TypeId):Option Nat:=(P.info? t).map (·.size)
def iC(t:TypeId):Option Bool:=(P.underlying t).map λ| .struct _ | .array _ _=>true | _=>false
def Zy:Nat->TypeId->Option (List V)
 | 0,_=>none
 | d+1,t=>match P.underlying t with
  | some .bool=>some [.sc (.bool false)]
  | some (.int k)=>some [.sc (.int k 0)]
  | some .string=>some [.sc (.string .empty)]
  | some (.slice e)=>do some [.gs (<- eJ P e) []]
  | some (.pointer _)=>some [.sc (.pointer none)]
  | some (.func _ _ _)=>some [.sc .nilFunc]
  | some (.map _ _)=>some [.sc (.map none)]
  | some (.array n e)=>do some (Wad n (<- Zy d e)).flatten
  | some (.struct fs)=>do some (<- fs.toList.mapM (λf=>Zy d f.type)).flatten
  | _=>none
def zhX:V->Bool
 | .sc (.int _ _) | .sc (.bool _) | .sc (.string _)=>true
 | _=>false
def ZI:V->Value->Bool
 | .sc (.bool a),.bool b=>a==b
 | .sc (.int k a),.int k' b=>k==k'&&a==b
 | .sc (.string a),.string b=>a.size==0&&b.size==0
 | .sc (.pointer none),.pointer none=>true
 | .sc .nilFunc,.nilFunc=>true
 | .sc (.map none),.map none=>true
 | .gs _ [],.slice none 0 0=>true
 | _,_=>false
def z8:List V->List Value->Bool
 | [],[]=>true
 | v::vs,u::us=>ZI v u&&z8 vs us
 | _,_=>false
def qv(t:TypeId):Option (List V):=do
 let cs <- Zy P 20 t
 let z <- (P.info? t).bind (·.zero)
 if z8 cs z.cells.toList then some cs else none
def K1(ty:TypeId):Value->Option V
 | .bool b=>some (.sc (.bool b))
 | .int k n=>some (.sc (.int k n))
 | .string s=>some (.sc (.string s))
 | .slice none 0 0=>match P.underlying ty with
  | some (.slice e)=>do some (.gs (<- eJ P e) [])
  | _=>none
 | .nilFunc=>some (.sc .nilFunc)
 | .pointer none=>some (.sc (.pointer none))
 | .map none=>some (.sc (.map none))
 | _=>none
def du(ty:TypeId):Operand->Option Src
 | .tmp t=>some (.tmp t)
 | .const v=>(K1 P ty v).map .const
 | .func f=>(aa f).map (λg=>.const (.fn g []))
 | .global g=>(aa.g g).map (λcs=>.const (.fp cs.length cs))
def lg(ty:TypeId):Option Operand->Option (Option Src)
 | none=>some none
 | some x=>(du P aa ty x).map some
def wj(place:Nat->Option (Nat × TypeId)):List (Nat × Operand)->Option (List (Nat × Nat × Src))
 | []=>some []
 | (i,x)::rest=>do
  let (off,ty) <- place i
  let s <- du P aa ty x
  let n <- eJ P ty
  pure ((off,n,s)::(<- wj place rest))
def VG:List Operand->List TypeId->Option (List Src)
 | [],_=>some []
 | x::xs,ts=>do
  let s <- du P aa (ts.headD 0) x
  pure (s::(<- VG xs ts.tail))
def zls(t:TypeId):Bool:=match iC P t with
 | some true=>match Zy P 20 t with
  | some z=>!(z.all zhX)
  | none=>true
 | _=>false
def EJ(lend:Nat):List Operand->List TypeId->Option (List (Src × Nat))
 | [],_=>some []
 | x::xs,ts=>do
  let s <- du P aa (ts.headD 0) x
  pure ((s,(if zls P (ts.headD 0) then 1 else 0)+lend)::(<- EJ lend xs ts.tail))
def JI(fs:Array Field)(i:Nat):Option (Nat × TypeId):=(fs[i]?).map λf=>(f.offset,f.type)
def oH(size:TypeId->Option Nat):List Field->Nat->Option Nat
 | [],off=>some off
 | f::fs,off=>do
  let s <- size f.type
  if f.name≠"_"/\f.offset=off/\eJ P f.type=some s then oH size fs (off+s) else none
def ng:Nat->TypeId->Option Nat
 | 0,_=>none
 | d+1,t=>match P.underlying t with
  | some (.int _)=>if eJ P t=some 1 then some 1 else none
  | some (.array n e)=>do
   let s <- ng d e
   if eJ P e=some s then some (n*s) else none
  | some (.struct fs)=>if P.stoodInHeld t then none else oH P (ng d) fs.toList 0
  | _=>none
def J8(t:TypeId):Option Nat:=do
 match <- P.underlying t with
 | .int _=>some 0
 | .string=>some 1
 | .struct _ | .array _ _=>do some ((<- ng P 20 t)+2)
 | _=>none
def Zw(t:TypeId):Option V:=do
 let z <- qv P t
 let b <- iC P t
 let zv <- (P.info? t).bind (·.zero)
 match b,zv,z with
 | true,.agg _,z=>some (.agg (z.map V.ag))
 | false,.agg _,_=>none
 | false,_,[v]=>some v.ag
 | _,_,_=>none
def HA(b:Builtin)(args:List Operand)(ts:List TypeId):Option K:=
 match b,args,ts with
 | .len,[x],[t]=>do
  match <- P.underlying t with
  | .slice _=>some (.bi (<- du P aa t x))
  | .string=>some (.bF (<- du P aa t x))
  | .array n _=>some (.aJ n)
  | .map _ _=>some (.bC (<- du P aa t x))
  | _=>none
 | .append,[s,x],[t,u]=>do
  match <- P.underlying t,<- P.underlying u with
  | .slice e,.slice _=>
   let sz <- eJ P e
   let i <- P.info? e
   let z <- qv P e
   if 0<sz/\z.length=sz/\t=u then some (.append sz i.bytes (<- du P aa t s) (<- du P aa u x)) else none
  | .slice e,.int _=>
   let sz <- eJ P e
   let i <- P.info? e
   let z <- qv P e
   if 0<sz/\z.length=sz then some (.aO sz i.bytes (z.map V.ag) (<- du P aa t s) (<- du P aa u x)) else none
  | _,_=>none
 | .copy,[d,s],[t,u]=>do
  match <- P.underlying t,<- P.underlying u with
  | .slice e,.slice _=>
   let sz <- eJ P e
   if 0<sz then some (.copy sz (<- du P aa t d) (<- du P aa u s)) else none
  | _,_=>none
 | .clear,[x],[t]=>do
  match <- P.underlying t with
  | .slice e=>
   let sz <- eJ P e
   let z <- qv P e
   if 0<sz/\z.length=sz then some (.clear sz (z.map V.ag) (<- du P aa t x)) else none
  | _=>none
 | .min,[x,y],_=>do some (.mm false (<- du P aa 0 x) (<- du P aa 0 y))
 | .max,[x,y],_=>do some (.mm true (<- du P aa 0 x) (<- du P aa 0 y))
 | _,_,_=>none
def zeg(f:FuncId):Bool:=match P.funcs[f]? with
 | some fn=>fn.body.isNone&&fn.name=="internal/bytealg.Compare"&&(Extern.findNext fn).isNone
 | none=>false
def Zz(f:FuncId):Option Bool:=match P.funcs[f]? with
 | some fn=>if fn.body.isNone&&(Extern.findNext fn).isNone then (if fn.name=="math/bits.Add64" then some false else if fn.name=="math/bits.Sub64" then some true else none) else none
 | none=>none
def zdT(t:TypeId)(take:Bool)(xs:List Nat)(x:Operand):Option K:=match xs,x with
 | [k],.const (.slice none 0 0)=>match P.underlying t with
  | some (.slice e)=>(eJ P e).map λs=>.bE s k
  | _=>none
 | [_],.tmp u=>some (.a8 (.tmp u))
 | [_,_],.tmp u=>some (.bG (.tmp u))
 | [_,_,_],.tmp u=>match P.underlying t with
  | some (.slice e)=>(eJ P e).bind λs=>if 0<s then some (.bh take s (.tmp u)) else none
  | _=>none
 | [_,_],.const (.slice none 0 0)=>match P.underlying t with
  | some (.slice e)=>(eJ P e).map λs=>.move (.const (.fr s [])) true
  | _=>none
 | _,_=>(du P aa t x).map λs=>.move s take
theorem Ec{x:Operand}(hk:zdT P aa t take xs x=some k):(∃ sz k',x=.const (.slice none 0 0)/\k=.bE sz k')∨(∃ s,du P aa t x=some s/\k=.move s take)∨(∃ s,du P aa t x=some s/\k=.a8 s)∨(∃ s,du P aa t x=some s/\k=.bG s)∨(∃ s p sz,du P aa t x=some s/\0<sz/\k=.bh p sz s)∨(∃ sz,x=.const (.slice none 0 0)/\k=.move (.const (.fr sz [])) true):=by
 unfold zdT at hk;split at hk
 ·split at hk
  ·rw [Wag] at hk
   grind
  ·cases hk
 ·cases hk; exact .inr (.inr (.inl ⟨_,rfl,rfl⟩))
 ·cases hk; exact .inr (.inr (.inr (.inl ⟨_,rfl,rfl⟩)))
 ·split at hk
  ·rw [Waa] at hk;obtain ⟨s,_,hk⟩:=hk;split at hk
   ·rename_i hs; cases hk;exact .inr (.inr (.inr (.inr (.inl ⟨_,_,_,rfl,hs,rfl⟩))))
   ·cases hk
  ·cases hk
 ·split at hk
  ·rw [Wag] at hk
   grind
  ·cases hk
 ·rw [Wag] at hk
  grind
def zdF(xs:List Nat)(k:K):K:=match xs,k with
 | _::_,.append sz bytes s x=>.aM sz bytes s x
 | _,k=>k
theorem ZE(xs:List Nat)(k:K):zdF xs k=k∨∃ sz bytes s x,k=.append sz bytes s x/\zdF xs k=.aM sz bytes s x:=by
 unfold zdF
 grind
def zdP(t:TypeId)(take:Bool)(xs:List Nat)(a:Operand):Option K:=match xs with
 | []=>do some (.load (<- iC P t) (<- eJ P t) (<- du P aa 0 a) take)
 | [_,_]=>do
  let n <- eJ P t
  let s <- du P aa 0 a
  if iC P t=some true then some (.aE n s) else none
 | _=>match P.underlying t with
  | some (.slice e)=>do
   let sz <- eJ P e
   if 0<sz/\iC P t=some false/\eJ P t=some 1 then some (.bj take sz (<- du P aa 0 a)) else none
  | _=>none
theorem Ny{a:Operand}(hk:zdP P aa t take xs a=some k):(∃ b n s,iC P t=some b/\eJ P t=some n/\du P aa 0 a=some s/\k=.load b n s take)∨(∃ sz s,0<sz/\iC P t=some false/\eJ P t=some 1/\du P aa 0 a=some s/\k=.bj take sz s)∨(∃ n s,iC P t=some true/\eJ P t=some n/\du P aa 0 a=some s/\k=.aE n s):=by
 unfold zdP at hk;split at hk
 ·simp only [Wab,Waa,Waf] at hk
  grind
 ·simp only [Wab,Waa] at hk
  grind
 ·split at hk
  ·simp only [Wab,Waa] at hk;obtain ⟨sz,_,hk⟩:=hk;split at hk
   ·rename_i hc;simp [Waa] at hk
    grind
   ·cases hk
  ·cases hk
def ze2(xs:List Nat)(n:Nat)(a x:Src):K:=match xs with
 | []=>.store n a x
 | xs=>.aX n a x xs
def WV(lo hi mx:Option Operand):Option (Operand × Operand):=match lo,hi,mx with
 | none,some (.tmp a),some (.tmp b)=>if D0 then some (.tmp a,.tmp b) else none
 | _,_,_=>none
theorem zby{lo hi mx:Option Operand}{h:Operand × Operand}(e:WV lo hi mx=some h):lo=none/\hi=some h.1/\mx=some h.2/\D0=true:=by
 unfold WV at e
 grind
def cK(o:Oper)(take:Bool)(xs:List Nat):Option K:=
 match o.op with
 | .move x | .assign x=>zdT P aa o.type take xs x
 | .pick c a b=>do some (.pick (<- du P aa o.type c) (<- du P aa o.type a) (<- du P aa o.type b))
 | .alloc t=>do
  let z <- qv P t
  some (.alloc ((z.all zhX||take)&&xs.isEmpty) (frz xs z))
 | .box t x=>do
  let z <- qv P t
  some (.box (z.all zhX||take) (<- du P aa t x))
 | .build t parts=>do
  let z <- qv P t
  match <- P.underlying t with
  | .struct fs=>do
   let _ <- fs.toList.mapM (λf=>(P.info? f.type).map λi=>(f.offset,i.size))
   let ps <- wj P aa (JI fs) parts.toList
   some (if take then .az z ps else .build (if xs.isEmpty then z.map V.ag else z) ps)
  | .array _ e=>do
   let n <- eJ P e
   let ps <- wj P aa (λi=>some (i*n,e)) parts.toList
   some (if take then .az z ps else .build (if xs.isEmpty then z.map V.ag else z) ps)
  | _=>none
 | .buildSlice t n parts=>do
  match <- P.underlying t with
  | .slice e=>
   let z <- qv P e
   let sz <- eJ P e
   if 0<sz/\z.length=sz/\n*sz<=1000000 then some (.buildSlice sz n (z.map V.ag) (<- wj P aa (λi=>some (i*sz,e)) parts.toList)) else none
  | _=>none
 | .load t a=>zdP P aa t take xs a
 | .store t a x=>do some (ze2 xs (<- eJ P t) (<- du P aa 0 a) (<- du P aa t x))
 | .nilCheck x=>do some (.nilCheck (<- du P aa 0 x))
 | .binOp op t x y _=>do
  match <- P.underlying t with
  | .int _ | .string=>some (.bin op (<- du P aa t x) (<- du P aa t y))
  | .slice _=>match y with
   | .const (.slice none 0 0)=>if op==.eql||op==.neq then some (.bo (op==.neq) (<- du P aa t x)) else none
   | _=>none
  | .bool=>if op==.eql||op==.neq then some (.bH (op==.neq) (<- du P aa t x) (<- du P aa t y)) else none
  | .struct _ | .array _ _=>
   if (op==.eql||op==.neq)&&(ng P 20 t).isSome&&(ng P 20 t==eJ P t)&&!(P.eqGuardType P.depth t) then some (.aW (op==.neq) ((eJ P t).getD 0) (<- du P aa t x) (<- du P aa t y)) else none
  | _=>none
 | .unOp op t x=>do some (.un op (<- du P aa t x))
 | .convert s d x=>do
  match <- P.underlying s,<- P.underlying d with
  | .int _,.int k=>some (.conv k (<- du P aa s x))
  | .slice e,.string=>match <- P.underlying e with
   | .int .u8=>some (.toStr (<- du P aa s x))
   | _=>none
  | .string,.slice e=>match <- P.underlying e with
   | .int .u8=>some (.ofStr (<- du P aa s x))
   | _=>none
  | _,_=>none
 | .makeFunc fn first caps=>match fn with
  | .func f=>if first.size=0 then do some (.makeFunc (<- aa f) (<- VG P aa caps.toList [])) else none
  | _=>none
 | .makeSlice t l c=>do
  match <- P.underlying t with
  | .slice e=>
   let z <- qv P e
   let sz <- eJ P e
   let i <- P.info? e
   if 0<sz/\z.length=sz then some (.makeSlice sz i.bytes (z.map V.ag) (<- du P aa 0 l) (<- du P aa 0 c)) else none
  | _=>none
 | .slice t x lo hi mx=>if mx.isSome&&hi.isNone then none else do
  match <- P.underlying t with
  | .array n e=>
   let sz <- eJ P e
   if 0<sz then some (.ay n sz (<- du P aa t x) (<- lg P aa 0 lo) (<- lg P aa 0 hi) (<- lg P aa 0 mx)) else none
  | .slice e=>
   let sz <- eJ P e
   if take then
    if 0<sz&&lo.isNone&&mx.isNone&&hi.isSome then some (.aY sz (<- du P aa t x) (<- lg P aa 0 hi)) else none
   else match WV lo hi mx with
    | some h=>if 0<sz then some (.aD sz (<- du P aa t x) (<- du P aa 0 h.1) (<- du P aa 0 h.2)) else none
    | none=>if 0<sz then some (.aT sz (<- du P aa t x) (<- lg P aa 0 lo) (<- lg P aa 0 hi) (<- lg P aa 0 mx)) else none
  | _=>none
 | .fieldAddr t x i=>do
  match <- P.underlying t with
  | .struct fs=>
   let f <- fs[i]?
   let n <- eJ P f.type
   if n=0 then none else some (.fieldAddr f.offset (<- du P aa 0 x))
  | _=>none
 | .field t x i=>do
  match <- P.underlying t with
  | .struct fs=>
   let f <- fs[i]?
   some (.field (<- iC P f.type) f.offset (<- eJ P f.type) (<- du P aa t x))
  | _=>none
 | .indexAddr t x i=>do
  match <- P.underlying t with
  | .array n e=>some (.al n (<- eJ P e) (<- du P aa 0 x) (<- du P aa 0 i))
  | .slice e=>
   let sz <- eJ P e
   if 0<sz then some (.aj sz (<- du P aa t x) (<- du P aa 0 i)) else none
  | _=>none
 | .index t x i=>do
  match <- P.underlying t with
  | .array n e=>some (.aR (<- iC P e) n (<- eJ P e) (<- du P aa t x) (<- du P aa 0 i))
  | _=>none
 | .sliceToArrayPointer t x=>do
  match <- P.underlying t with
  | .array n e=>
   let sz <- eJ P e
   if 0<sz/\0<n then some (.bq n sz (<- du P aa 0 x)) else none
  | _=>none
 | .makeMap _ r=>if r.isNone then some .makeMap else none
 | .lookup t x i ok=>do
  match <- P.underlying t with
  | .map k e=>
   let kd <- J8 P k
   some (.a9 kd ok (<- Zw P e) (<- du P aa t x) (<- du P aa k i))
  | _=>none
 | .mapUpdate t m k x | .insert t m k x=>do
  match <- P.underlying t with
  | .map kt e=>
   let kd <- J8 P kt
   some (.bz kd (<- du P aa t m) (<- du P aa kt k) (<- du P aa e x))
  | _=>none
 | .extract x i=>do
  let s <- du P aa 0 x
  some (if take then .extract s i else .pull s i)
 | .call c=>match c.callee with
  | .value (.func f)=>if zeg P f then (match c.args.toList with
    | [x,y]=>do some (.bk (<- du P aa 0 x) (<- du P aa 0 y))
    | _=>none) else if (Zz P f).isSome then (match c.args.toList with
    | [x,y,z]=>do some (.adc (<- Zz P f) (<- du P aa 0 x) (<- du P aa 0 y) (<- du P aa 0 z))
    | _=>none) else do some (.call (<- aa f) (<- EJ P aa (if take then 2 else 0) c.args.toList c.argTypes.toList) xs)
  | .value (.tmp t)=>do some (.aQ (.tmp t) (<- EJ P aa (if take then 2 else 0) c.args.toList c.argTypes.toList) xs)
  | .builtin b=>do
   let k <- HA P aa b c.args.toList c.argTypes.toList
   some (zdF xs k)
  | _=>none
 | _=>none
def zad(ops:Array Oper):Option (Nat × Bool)->Option (Option (Nat × Bool))
 | none=>some none
 | some (j,want)=>do some (some (<- (<- ops[j]?).dst,want))
def cOp(h:Hint)(rid:Nat)(ops:Array Oper)(i:Nat)(o:Oper):Option COp:=do
 let k:=(cK P aa o (h.take.contains (rid,i)) (((h.xs.find? λx=>x.1==rid&&x.2.1==i).map (·.2.2)).getD [])).getD .stuck
 let g <- zad ops o.guard
 some ⟨o.dst,h.ah.contains (rid,i),g,k⟩
def OT(h:Hint)(rid:Nat)(ops:Array Oper):List Oper->Nat->Option (List COp)
 | [],_=>some []
 | o::rest,i=>do
  let c <- cOp P aa h rid ops i o
  pure (c::(<- OT h rid ops rest (i+1)))
end
def xf(a b:List Nat):Bool:=a.all (λx=>!b.contains x)
def Src.tmps:Src->List Nat
 | .tmp t=>[t]
 | .const _=>[]
def Src.tmpsO:Option Src->List Nat
 | some s=>s.tmps
 | none=>[]
def dU:K->List Nat
 | .move x _ | .bo _ x | .box _ x | .load _ _ x _ | .nilCheck x | .un _ x | .conv _ x | .toStr x | .ofStr x | .bG x | .fieldAddr _ x | .field _ _ _ x | .bi x | .bF x | .bC x | .extract x _ | .pull x _ | .bq _ _ x | .a8 x | .bj _ _ x | .aE _ x | .bh _ _ x=>x.tmps
 | .pick c a b | .adc _ c a b | .aD _ c a b=>c.tmps++a.tmps++b.tmps
 | .alloc .. | .aJ _ | .makeMap | .bE .. | .stuck=>[]
 | .a9 _ _ _ x k=>x.tmps++k.tmps
 | .bz _ x k v=>x.tmps++k.tmps++v.tmps
 | .build _ ps | .az _ ps | .buildSlice _ _ _ ps=>ps.flatMap (λp=>p.2.2.tmps)
 | .store _ a x | .bk a x | .bin _ a x | .aW _ _ a x | .bH _ a x | .makeSlice _ _ _ a x | .al _ _ a x | .aj _ a x | .aR _ _ _ a x | .append _ _ a x | .aM _ _ a x | .aO _ _ _ a x | .copy _ a x | .mm _ a x | .aX _ a x _=>a.tmps++x.tmps
 | .ay _ _ x l h m | .aT _ x l h m=>x.tmps++Src.tmpsO l++Src.tmpsO h++Src.tmpsO m
 | .aY _ x h=>x.tmps++Src.tmpsO h
 | .clear _ _ x=>x.tmps
 | .call _ xs _=>xs.flatMap (λp=>p.1.tmps)
 | .aQ f xs _=>f.tmps++xs.flatMap (λp=>p.1.tmps)
 | .makeFunc _ xs=>xs.flatMap Src.tmps
def fC(o:COp):List Nat:=dU o.k++(match o.guard with | some (j,_)=>[j] | none=>[])
def iy:K->List Nat
 | .move x true=>x.tmps
 | .store _ _ x | .extract x _ | .append _ _ x _ | .aM _ _ x _ | .aO _ _ _ x _ | .a8 x | .bh _ _ x=>x.tmps
 | _=>[]
def pE(a b:COp):Bool:=
 xf (iy a.k++a.dst.toList) (fC b++iy b.k++b.dst.toList)&&xf (iy b.k++b.dst.toList) (fC a++iy a.k++a.dst.toList)
def Dl(o:COp):List Nat:=iy o.k++o.dst.toList
def Fl.roots(f:Fl):List Nat:=f.root.toList++f.w
def zew:K->Bool
 | .move ..=>true
 | _=>false
def DB:K->Bool
 | .load false _ _ true=>true
 | _=>false
def uk(r:Option Nat)(w:List Nat):Bool:=match r with
 | some r=>w.contains r
 | none=>false
def Dp(a b:COp × Fl):Bool:=pE a.1 b.1&&xf (Dl a.1++Dl b.1) (a.2.roots++b.2.roots) &&
 ((!a.2.l&&!b.2.l&&(eN a.1.k||eN b.1.k||(a.2.q&&b.2.q&&!a.2.s&&!b.2.s)||(uk a.2.root b.2.w&&!a.2.s&&!b.2.s)||(uk b.2.root a.2.w&&!a.2.s&&!b.2.s)||a.2.s||b.2.s))||eN a.1.k||eN b.1.k ||
  (a.2.l&&b.2.l&&((WE a.1.k&&WE b.1.k)||(hI a.1.k&&DB b.1.k)||(DB a.1.k&&hI b.1.k)||zew a.1.k||zew b.1.k||uk a.2.root b.2.w||uk b.2.root a.2.w||(a.2.nw&&uk (Ji a.1) b.2.wn)||(b.2.nw&&uk (Ji b.1) a.2.wn))))
def Kh(a b:COp × Fl):Bool:=match a.1,b.1 with
 | ⟨some da,false,none,.move (.tmp x) true⟩,⟨some db,false,none,.move (.tmp y) false⟩=>
  Wae x y&&!(Wae da x)&&!(Wae db x)&&!(Wae da db)&&xf [da,x,db] a.2.roots&&!b.2.l&&!b.2.s&&!b.2.q&&b.2.root.isNone&&b.2.w.isEmpty&&!a.2.tk&&!b.2.tk
 | _,_=>false
def VF(a b:COp × Fl):Bool:=match a.1,b.1 with
 | ⟨some _,false,none,.load false _ _ true⟩,⟨some _,false,none,.load false _ _ true⟩=>
  pE a.1 b.1&&xf (Dl a.1++Dl b.1) (a.2.roots++b.2.roots)&&a.2.l&&b.2.l&&a.2.tk&&b.2.tk
 | _,_=>false
def O4(a b:COp × Fl):Bool:=Kh a b||Kh b a||VF a b||Dp a b
def PM(before:Array Nat)(ks:List (COp × Fl)):Bool:=
 (Waq ks.length).all λj=>(Waq j).all λi=>
  (before.getD j 0).testBit i||match ks[i]?,ks[j]? with | some a,some b=>O4 a b | _,_=>false
def Pv(ops:Array Oper):Bool:=ops.toList.zipIdx.all λ(o,i)=>o.after.all λe=>!Region.binds .any e||decide (e.on<i)
def Vh(rt:Option Nat)(ks:List COp):Nat->Nat->Option Nat
 | 0,_=>none
 | n+1,p=>match ks.find? (λo=>o.dst==some p) with
  | none=>some p
  | some o=>match o.k with
   | .aj _ (.tmp u) _=>match ks.find? (λo=>o.dst==some u) with
    | none=>some u
    | some o=>if (match o.k with | .load false _ _ false=>true | _=>false) then rt else none
   | .fieldAddr _ (.tmp u)=>Vh rt ks n u
   | .nilCheck (.tmp u)=>Vh rt ks n u
   | .move (.tmp u) false=>Vh rt ks n u
   | _=>none
def yY(rt:Option Nat)(ks:List COp)(o:COp):Option Nat:=match o.k with
 | .load _ _ (.tmp p) _ | .store _ (.tmp p) _=>(Vh rt ks 5 p).bind λr=>if ks.any (λk=>(Dl k).contains r) then none else some r
 | _=>none
def TM:K->Bool
 | .call .. | .aQ ..=>true
 | _=>false
def An:K->Bool
 | .alloc .. | .box .. | .buildSlice .. | .makeSlice .. | .append .. | .extract ..=>true
 | _=>false
def zmD:K->Bool
 | .load _ _ (.tmp _) _=>true
 | _=>false
def KW(ks:List COp)(o:COp):Bool:=match o.k with
 | .store _ (.tmp p) _=>o.dst.isNone&&ks.any (λb=>b.dst==some p&&An b.k)
 | _=>false
def zjx(rt:Option Nat)(ks:List COp)(o:COp):Bool:=TM o.k||An o.k||zew o.k||zmD o.k||zhf o.k||KW ks o||(yY rt ks o).isSome
def za8(before:Array Nat)(ks:List COp)(o:COp)(i:Nat):List COp:=
 (ks.zipIdx.filter λ(b,j)=>i != j&&!((before.getD (max i j) 0).testBit (min i j))&&!(eN o.k||eN b.k)).map (·.1)
def q8(rt:Option Nat)(before:Array Nat)(ks:List COp)(loc:Bool):List (COp × Fl):=
 ks.zipIdx.map λ(o,i)=>
  let ps:=za8 before ks o i
  (o,match ps with
   | []=>q0
   | ps=>if loc then (λ(f:Fl)=>if DB o.k&&ps.any (λb=>DB b.k) then { f with tk:=true } else f) (match yY rt ks o with
     | some r=>ql r ((ps.filter (λb=>(yY rt ks b) != some r)).filterMap (yY rt ks)).eraseDups ((ps.filter (λb=>An b.k||KW ks b)).filterMap Ji).eraseDups
     | none=>if An o.k||KW ks o then qn (ps.filterMap (yY rt ks)).eraseDups ((ps.filter (λb=>An b.k||KW ks b)).filterMap Ji).eraseDups
      else qc (ps.filterMap (yY rt ks)).eraseDups ((ps.filter (λb=>An b.k||KW ks b)).filterMap Ji).eraseDups)
    else (match (if hI o.k&&!(ps.all λb=>hI b.k) then yY rt ks o else none) with
     | some r=>{ q1 with root:=some r }
     | none=>if (TM o.k&&ps.all (λb=>hI b.k&&(yY rt ks b).isSome))||(An o.k&&ps.all (λb=>TM b.k||(hI b.k&&(yY rt ks b).isSome))) then { q0 with w:=(ps.filterMap (yY rt ks)).eraseDups }
      else if TM o.k&&ps.any (λb=>An b.k) then q2 else q1))
def nJ(rt:Option Nat)(before:Array Nat)(ks:List COp):List (COp × Fl):=
 let loc:=ks.zipIdx.all λ(o,i)=>(za8 before ks o i).isEmpty||zjx rt ks o
 if loc&&PM before (q8 rt before ks true) then q8 rt before ks true else q8 rt before ks false
def CC.msk(c:CC):Msk->CC
 | none=>c
 | some (kt,kb)=>.seq c (.mask kt kb)
def CC.pre(c:CC):Msk->CC
 | none=>c
 | some (kt,kb)=>.seq (.mask kt kb) c
def zcg(s:Src):List COp->Bool
 | []=>false
 | [⟨some d,_,_,.bo _ _⟩]=>match s with
  | .tmp t=>Wae t d
  | _=>false
 | _::rest=>zcg s rest
def zfV:CC->Option (CC × Src × CC)
 | .seq (.bw ops) (.cond s x .skip)=>if zcg s ops then some (.bw ops,s,x) else none
 | _=>none
def T2(a b:CC):CC:=match zfV a with
 | some (p,s,x)=>.fork p s x b
 | none=>.seq a b
def iT(P:Program)(aa:Rn)(h:Hint):Code->List Msk->Option (CC × List Msk)
 | .skip,ms=>some (.skip,ms)
 | .region id ops draw,ms=>do
  let cs <- OT P aa h id ops ops.toList 0
  if draw then (if Pv ops&&PM (Region.before ops) (nJ (h.rt.lookup id) (Region.before ops) cs) then some (.bu ((h.fz.lookup id).getD []) (nJ (h.rt.lookup id) (Region.before ops) cs),ms) else none) else (match h.fz.lookup id with
   | some fz=>some (.bu fz (cs.map λc=>(c,q0)),ms)
   | none=>some (.bw cs,ms))
 | .seq a b,ms=>do
  let (a',ms) <- iT P aa h a ms
  let (b',ms) <- iT P aa h b ms
  some (T2 a' b',ms)
 | .cond c a b,m::ms=>do
  let s <- du P aa 0 c
  let (a',ms) <- iT P aa h a ms
  let (b',ms) <- iT P aa h b ms
  some (CC.msk (.cond s a' b') m,ms)
 | .block id a,m::ms=>do
  let (a',ms) <- iT P aa h a ms
  some (CC.msk (.block id a') m,ms)
 | .loop a,some (kt,kb)::ms=>do
  let (a',ms) <- iT P aa h a ms
  some (.loop kt kb a',ms)
 | .exit id,m::ms=>some (CC.pre (.exit id) m,ms)
 | .ret,m::ms=>some (CC.pre .ret m,ms)
 | _,_=>none
def lL(P:Program)(rp:Bool):List ResultVar->Option (List RV)
 | []=>some []
 | .tmp t::rest=>do some ((if rp then .aH t else .tmp t)::(<- lL P rp rest))
 | .cell a t::rest=>do some (.cell a (<- iC P t) (<- eJ P t)::(<- lL P rp rest))
def Jr(P:Program)(aa:Rn)(h:Hint)(f:FuncId):Option CF:=do
 let fn <- P.funcs[f]?
 let body <- fn.body
 let (c,_) <- iT P aa h body h.masks
 let rs <- lL P h.rp fn.results.toList
 if fn.params.size+fn.nfree<=fn.ntmps then some ⟨fn.ntmps,rs.map (RV.boxed h.cs h.rp),c⟩ else none
end
section
variable {aa:Rn}{v:V}{u:Value}
theorem mB(k o i:Nat):(⟨k,o,none⟩:Addr).add i=⟨k,o+i,none⟩:=by
 unfold Addr.add; split <;> simp_all
inductive RepP (aa:Rn) (w:World) (Wr:Nat->Nat->Prop):V->Value->Prop
 | sc (v:Value) (h:v.oneCell'=true):RepP aa w Wr (.sc v) v
 | agg (cs:List V) (us:List Value) (hl:cs.length=us.length) (h:∀ (i:Nat) (c:V) (u:Value),cs[i]?=some c->us[i]?=some u->RepP aa w Wr c u)
   (h1:∀ u∈us,u.oneCell'=true):RepP aa w Wr (.agg cs) (.agg us.toArray)
 | sl (sz:Nat) (es:Ls) (A:Option Addr) (c:Nat) (f:Nat->Value) (hc:es.length<=c) (hsz:∀ e∈es,e.length=sz) (k o:Nat)
   (hA:es≠[]->A=some ⟨k,o,none⟩) (hcell:∀ (i:Nat) (v:V),es.flatten[i]?=some v->¬ Wr k (o+i)/\w.cell? ⟨k,o+i,none⟩=some (f i))
   (h1:∀ (i:Nat) (v:V),es.flatten[i]?=some v->(f i).oneCell'=true)
   (h:∀ (i:Nat) (v:V),es.flatten[i]?=some v->RepP aa w Wr v (f i)):RepP aa w Wr (.sl sz es) (.slice A es.length c)
 | bv (sz:Nat) (es:Ls) (A:Option Addr) (f:Nat->Value) (hsz:∀ e∈es,e.length=sz) (k o:Nat)
   (hA:es≠[]->A=some ⟨k,o,none⟩) (hcell:∀ (i:Nat) (v:V),es.flatten[i]?=some v->¬ Wr k (o+i)/\w.cell? ⟨k,o+i,none⟩=some (f i))
   (h1:∀ (i:Nat) (v:V),es.flatten[i]?=some v->(f i).oneCell'=true)
   (h:∀ (i:Nat) (v:V),es.flatten[i]?=some v->RepP aa w Wr v (f i)) (hon:es=[]∨D0=true):RepP aa w Wr (.gs sz es) (.slice A es.length es.length)
 | fn (f:FuncId) (g:Nat) (h:aa f=some g):RepP aa w Wr (.fn g []) (.func (.func f) #[] #[])
theorem RepP.nil{w:World}{Wr:Nat->Nat->Prop}(sz:Nat)(A:Option Addr):RepP aa w Wr (.gs sz []) (.slice A 0 0):=
 .bv sz [] A (λ_=>undef) (by simp) 0 0 (by simp) (by simp) (by simp) (by simp) (.inl rfl)
theorem RepP.mono{w w':World}{Wr Wr':Nat->Nat->Prop}
  (H:∀ k o u,¬ Wr k o->w.cell? ⟨k,o,none⟩=some u->¬ Wr' k o/\w'.cell? ⟨k,o,none⟩=some u)   (h:RepP aa w Wr v u):RepP aa w' Wr' v u:=by
 induction h with
 | sc v h=>exact .sc v h
 | agg cs us hl _ h1 ih=>exact .agg cs us hl ih h1
 | sl sz es A c f hc hsz k o hA hcell h1 _ ih=>exact .sl sz es A c f hc hsz k o hA (λi v hv=>H _ _ _ (hcell i v hv).1 (hcell i v hv).2) h1 ih
 | bv sz es A f hsz k o hA hcell h1 _ hon ih=>exact .bv sz es A f hsz k o hA (λi v hv=>H _ _ _ (hcell i v hv).1 (hcell i v hv).2) h1 ih hon
 | fn f g h=>exact .fn f g h
inductive Loc where
 | slot (t j:Nat)
 | cell (id j:Nat)
variable {l:Loc}
inductive Ow where
 | no
 | gs (l:Loc) (h:Nat)
 | ax (id:Nat)
def wr(U:Nat->Nat->Prop)(ω:Nat->Ow)(k o:Nat):Prop:=
 U k o∨match ω k with | .no=>False | .gs _ h=>h<=o | .ax _=>True
structure En where
 w:World
 Wr:Nat->Nat->Prop
 ω:Nat->Ow
 μ:Nat->Nat
 bl:Nat->Option Nat
variable {E:En}
def eR(w:World)(k:Nat):Nat:=match w.heap[k]? with | some (.cells arr _ _)=>arr.size | _=>0
def dS(b:List B)(id:Nat):Option Nat:=match b[id]? with | some (.live _ cs)=>some cs.length | some (.fz cs)=>some cs.length | some (.mp _)=>some 0 | some (.dead n)=>some n | _=>none
def Loc.sub:Loc->Nat->Loc
 | .slot t _,j=>.slot t (j+1)
 | .cell id j,_=>.cell id j
def Loc.hd:Loc->Loc
 | .slot t _=>.slot t 0
 | l=>l
theorem Loc.hd_sub(l:Loc)(j:Nat):(l.sub j).hd=l.hd:=by cases l <;> rfl
def OwnAt(E:En)(v:V)(u:Value):Prop:=
 ∃ (id off len sz c L:Nat) (A:Option Addr),v=.own id off len sz/\u=.slice A len c/\E.bl id=some L/\off+len*sz<=L/\len<=c/\(L=0->sz=0∨c=0) /\
  ((A=some ⟨E.μ id,off,none⟩/\off+c*sz<=eR E.w (E.μ id))∨(len=0/\c=0))
inductive Rep (aa:Rn) (E:En):Loc->V->Value->Prop
 | pure {l:Loc} {v:V} {u:Value} (h:RepP aa E.w E.Wr v u):Rep aa E l v u
 | gs {l:Loc} (sz:Nat) (es:Ls) (Y c:Nat) (arr:Array Value) (T:TypeId) (f:Nat->Value) (hω:E.ω Y=.gs l (es.length*sz))
   (hb:E.w.heap[Y]?=some (.cells arr T (0,0))) (hc:c*sz<=arr.size) (hn:es.length<=c) (hsz:∀ e∈es,e.length=sz)
   (hcell:∀ (i:Nat) (v:V),es.flatten[i]?=some v->arr[i]?=some (f i)) (h1:∀ (i:Nat) (v:V),es.flatten[i]?=some v->(f i).oneCell'=true)
   (h:∀ (i:Nat) (v:V),es.flatten[i]?=some v->RepP aa E.w E.Wr v (f i)):Rep aa E l (.gs sz es) (.slice (some ⟨Y,0,none⟩) es.length c)
 | fr {l:Loc} (sz:Nat) (es:Ls) (Y c:Nat) (arr:Array Value) (T:TypeId) (f:Nat->Value) (hω:E.ω Y=.gs l 0)
   (hb:E.w.heap[Y]?=some (.cells arr T (0,0))) (hc:c*sz<=arr.size) (hn:es.length<=c/\(es=[]->sz=0∨c=0)) (hsz:∀ e∈es,e.length=sz)
   (hcell:∀ (i:Nat) (v:V),es.flatten[i]?=some v->arr[i]?=some (f i)) (h1:∀ (i:Nat) (v:V),es.flatten[i]?=some v->(f i).oneCell'=true)
   (h:∀ (i:Nat) (v:V),es.flatten[i]?=some v->RepP aa E.w E.Wr v (f i)):Rep aa E l (.fr sz es) (.slice (some ⟨Y,0,none⟩) es.length c)
 | aU {l:Loc} (sz:Nat) (A:Option Addr):Rep aa E l (.fr sz []) (.slice A 0 0)
 | bx {l:Loc} (p:Bool) (cs:List V) (Y:Nat) (arr:Array Value) (T:TypeId) (f:Nat->Value) (hω:E.ω Y=.gs l 0)
   (hb:E.w.heap[Y]?=some (.cells arr T (0,0))) (hn:cs.length<=arr.size)
   (hcell:∀ (i:Nat) (v:V),cs[i]?=some v->arr[i]?=some (f i)) (h1:∀ (i:Nat) (v:V),cs[i]?=some v->(f i).oneCell'=true)
   (h:∀ (i:Nat) (v:V),cs[i]?=some v->RepP aa E.w E.Wr v (f i)):Rep aa E l (.bx p cs) (.pointer (some ⟨Y,0,none⟩))
 | own {l:Loc} (id off len sz c L:Nat) (A:Option Addr) (hL:E.bl id=some L) (hl:off+len*sz<=L) (hc:len<=c/\(L=0->sz=0∨c=0))
   (hA:(A=some ⟨E.μ id,off,none⟩/\off+c*sz<=eR E.w (E.μ id))∨(len=0/\c=0)):Rep aa E l (.own id off len sz) (.slice A len c)
 | cut {l:Loc} (id off len cap sz c L:Nat) (A:Option Addr) (hL:E.bl id=some L) (hl:off+cap*sz<=L) (hc:len<=cap/\cap<=c/\(L=0->sz=0∨c=0))
   (hA:(A=some ⟨E.μ id,off,none⟩/\off+c*sz<=eR E.w (E.μ id))∨(cap=0/\c=0)):Rep aa E l (.cut id off len cap sz) (.slice A len c)
 | ptr {l:Loc} (id off L:Nat) (hL:E.bl id=some L):Rep aa E l (.ptr id off) (.pointer (some ⟨E.μ id,off,none⟩))
 | fp {l:Loc} (n:Nat) (cs:List V) (k o:Nat) (f:Nat->Value) (hl:cs.length=n)
   (hcell:∀ (i:Nat) (v:V),cs[i]?=some v->¬ E.Wr k (o+i)/\E.w.cell? ⟨k,o+i,none⟩=some (f i))
   (h1:∀ (i:Nat) (v:V),cs[i]?=some v->(f i).oneCell'=true)
   (h:∀ (i:Nat) (v:V),cs[i]?=some v->RepP aa E.w E.Wr v (f i)):Rep aa E l (.fp n cs) (.pointer (some ⟨k,o,none⟩))
 | fn {l:Loc} (f:FuncId) (g:Nat) (caps:List V) (us:List Value) (hr:aa f=some g) (hl:caps.length=us.length)
   (h:∀ (i:Nat) (c:V),caps[i]?=some c->∃ id off L,c=.ptr id off/\E.bl id=some L/\us[i]?=some (.pointer (some ⟨E.μ id,off,none⟩))):Rep aa E l (.fn g caps) (.func (.func f) #[] us.toArray)
 | ae {l:Loc} (vs:List V) (us:List Value) (hl:vs.length=us.length)
   (h:∀ (j:Nat) (v:V) (u:Value),vs[j]?=some v->us[j]?=some u->Rep aa E (l.sub j) v u):Rep aa E l (.ae vs) (.tuple us.toArray)
 | ub {l:Loc} (b:Bool):Rep aa E l .ub (.bool b)
 | mp {l:Loc} (id L:Nat) (hL:E.bl id=some L):Rep aa E l (.mp id) (.map (some (E.μ id)))
 | st {l:Loc} (cs:List V) (us:List Value) (hl:cs.length=us.length) (h:∀ (i:Nat) (c:V) (u:Value),cs[i]?=some c->us[i]?=some u->RepP aa E.w E.Wr c u∨OwnAt E c u)
   (h1:∀ u∈us,u.oneCell'=true):Rep aa E l (.st cs) (.agg us.toArray)
 | af {l:Loc} {u:Value}:Rep aa E l .af u
structure Fr (E E':En):Prop where
 st:∀ k o u,¬ E.Wr k o->E.w.cell? ⟨k,o,none⟩=some u->¬ E'.Wr k o/\E'.w.cell? ⟨k,o,none⟩=some u
 id:∀ id L,E.bl id=some L->E'.bl id=some L/\E'.μ id=E.μ id/\eR E.w (E.μ id)<=eR E'.w (E.μ id)
theorem OwnAt.frame{E':En}(F:Fr E E')(h:OwnAt E v u):OwnAt E' v u:=by
 obtain ⟨id,off,len,sz,c,L,A,e1,e2,hL,hl,hc,hz,hA⟩:=h;obtain ⟨f1,f2,f3⟩:=F.id id L hL;refine ⟨id,off,len,sz,c,L,A,e1,e2,f1,hl,hc,hz,?_⟩
 grind
theorem OwnAt.rep(h:OwnAt E v u)(l:Loc):Rep aa E l v u:=by
 obtain ⟨id,off,len,sz,c,L,A,rfl,rfl,hL,hl,hc,hz,hA⟩:=h;exact .own id off len sz c L A hL hl ⟨hc,hz⟩ hA
theorem Rep.bt{id off len sz:Nat}(h:Rep aa E l (.own id off len sz) u):OwnAt E (.own id off len sz) u:=by
 cases h with
 | pure h=>cases h
 | own _ _ _ _ c L A hL hl hc hA=>exact ⟨id,off,len,sz,c,L,A,rfl,rfl,hL,hl,hc.1,hc.2,hA⟩
theorem Rep.frame{aa:Rn}{E E':En}(F:Fr E E'){l:Loc}{v:V}{u:Value}(h:Rep aa E l v u)
  (hg:∀ (l':Loc) (Y h:Nat),l'.hd=l.hd->E.ω Y=.gs l' h->E'.ω Y=.gs l' h/\E'.w.heap[Y]?=E.w.heap[Y]?):Rep aa E' l v u:=by
 induction h with
 | pure h=>exact .pure (h.mono F.st)
 | @gs l sz es Y c arr T f hω hb hc hn hsz hcell h1 h=>
  obtain ⟨g1,g2⟩:=hg _ _ _ rfl hω;exact .gs sz es Y c arr T f g1 (by rw [g2]; exact hb) hc hn hsz hcell h1 (λi v hv=>(h i v hv).mono F.st)
 | @fr l sz es Y c arr T f hω hb hc hn hsz hcell h1 h=>
  obtain ⟨g1,g2⟩:=hg _ _ _ rfl hω;exact .fr sz es Y c arr T f g1 (by rw [g2]; exact hb) hc hn hsz hcell h1 (λi v hv=>(h i v hv).mono F.st)
 | aU sz A=>exact .aU sz A
 | ub b=>exact .ub b
 | mp id L hL=>
  obtain ⟨f1,f2,f3⟩:=F.id id L hL;rw [<- f2];exact .mp id L f1
 | @bx l p cs Y arr T f hω hb hn hcell h1 h=>
  obtain ⟨g1,g2⟩:=hg _ _ _ rfl hω;exact .bx p cs Y arr T f g1 (by rw [g2]; exact hb) hn hcell h1 (λi v hv=>(h i v hv).mono F.st)
 | own id off len sz c L A hL hl hc hA=>
  obtain ⟨f1,f2,f3⟩:=F.id id L hL;refine .own id off len sz c L A f1 hl hc ?_
  grind
 | cut id off len cap sz c L A hL hl hc hA=>
  obtain ⟨f1,f2,f3⟩:=F.id id L hL;refine .cut id off len cap sz c L A f1 hl hc ?_
  grind
 | ptr id off L hL=>
  obtain ⟨f1,f2,f3⟩:=F.id id L hL;rw [<- f2];exact .ptr id off L f1
 | fp n cs k o f hl hcell h1 h=>exact .fp n cs k o f hl (λi v hv=>F.st _ _ _ (hcell i v hv).1 (hcell i v hv).2) h1 (λi v hv=>(h i v hv).mono F.st)
 | fn f g caps us hr hl h=>
  refine .fn f g caps us hr hl (λi c hc=>?_);obtain ⟨id,off,L,e1,e2,e3⟩:=h i c hc;obtain ⟨f1,f2,f3⟩:=F.id id L e2
  grind
 | @ae l vs us hl h ih=>
  refine .ae vs us hl (λj v u hv hu=>ih j v u hv hu (λl' Y h he hω=>hg l' Y h (by rw [he,Loc.hd_sub]) hω))
 | st cs us hl h h1=>exact .st cs us hl (λi c u hc hu=>(h i c u hc hu).imp (λq=>q.mono F.st) (λq=>q.frame F)) h1
 | af=>exact .af
theorem gY{es:Ls}{sz:Nat}(h:∀ e∈es,e.length=sz):es.flatten.length=es.length*sz:=by
 induction es with
 | nil=>simp
 | cons e es ih=>
  grind
theorem Rep.frame0{E':En}(F:Fr E E')(H0:∀ l,Rep aa E l v u)(hv:∀ x xs,v≠.ae (x::xs))(l:Loc):Rep aa E' l v u:=by
 have h1:=H0 (.slot 0 0);have h2:=H0 (.slot 1 0);clear H0;cases h1 with
 | pure h=>exact .pure (h.mono F.st)
 | gs sz es Y c arr T f hω hb hc hn hsz hcell hh h=>
  cases h2 with
  | pure h=>exact .pure (h.mono F.st)
  | gs _ _ _ _ arr' T' f' hω'=>rw [hω] at hω'; cases hω'
 | fr sz es Y c arr T f hω hb hc hn hsz hcell hh h=>
  cases h2 with
  | pure h=>exact .pure (h.mono F.st)
  | fr _ _ _ _ arr' T' f' hω'=>rw [hω] at hω'; cases hω'
  | aU _ _=>exact .aU _ _
 | aU sz A=>exact .aU sz A
 | ub b=>exact .ub b
 | mp id L hL=>
  obtain ⟨f1,f2,f3⟩:=F.id id L hL;rw [<- f2];exact .mp id L f1
 | bx p cs Y arr T f hω hb hn hcell hh h=>
  cases h2 with
  | pure h=>exact .pure (h.mono F.st)
  | bx _ _ _ arr' T' f' hω'=>rw [hω] at hω'; cases hω'
 | own id off len sz c L A hL hl hc hA=>
  obtain ⟨f1,f2,f3⟩:=F.id id L hL;refine .own id off len sz c L A f1 hl hc ?_
  grind
 | cut id off len cap sz c L A hL hl hc hA=>
  obtain ⟨f1,f2,f3⟩:=F.id id L hL;refine .cut id off len cap sz c L A f1 hl hc ?_
  grind
 | ptr id off L hL=>
  obtain ⟨f1,f2,f3⟩:=F.id id L hL;rw [<- f2];exact .ptr id off L f1
 | fp n cs k o f hl hcell q1 q2=>exact .fp n cs k o f hl (λi v hv=>F.st _ _ _ (hcell i v hv).1 (hcell i v hv).2) q1 (λi v hv=>(q2 i v hv).mono F.st)
 | fn f g caps us hr hl q2=>
  refine .fn f g caps us hr hl (λi c hc=>?_);obtain ⟨id,off,L,e1,e2,e3⟩:=q2 i c hc;obtain ⟨f1,f2,f3⟩:=F.id id L e2
  grind
 | ae vs us hl h=>
  cases vs with
  | nil=>
   cases us with
   | nil=>exact .ae [] [] rfl (by simp)
   | cons x xs=>simp at hl
  | cons x xs=>exact absurd rfl (hv x xs)
 | st cs us hl h _h1=>exact .st cs us hl (λi c u hc hu=>(h i c u hc hu).imp (λq=>q.mono F.st) (λq=>q.frame F)) _h1
 | af=>exact .af
theorem Rep.ag(hU:∀ Y l h i,E.ω Y=.gs l h->i<h->¬ E.Wr Y i)(h:Rep aa E l v u)(l':Loc):Rep aa E l' v.ag u:=by
 cases h with
 | pure h=>
  cases h with
  | sc _ h=>exact .pure (.sc _ h)
  | agg cs us hl h h1=>exact .pure (.agg cs us hl h h1)
  | sl sz es A c f hc hsz k o hA hcell h1 h=>exact .pure (.sl sz es A c f hc hsz k o hA hcell h1 h)
  | bv sz es A f hsz k o hA hcell h1 h hon=>exact .pure (.sl sz es A es.length f (Wah _) hsz k o hA hcell h1 h)
  | fn f g h=>exact .pure (.fn f g h)
 | gs sz es Y c arr T f hω hb hc hn hsz hcell h1 h=>
  refine .pure (.sl sz es _ c f hn hsz Y 0 (λ_=>rfl) (λi v hv=>⟨?_,?_⟩) h1 h)
  ·have hi:i<es.flatten.length:=(Wam.1 hv).1;rw [gY hsz] at hi;rw [Wau];exact hU Y _ _ i hω hi
  ·rw [Wau,cell_of_row _ _ _ _ _ _ hb]; exact hcell i v hv
 | fr sz es Y c arr T f hω hb hc hn hsz hcell h1 h=>exact .af
 | aU sz A=>exact .af
 | ub b=>exact .ub b
 | mp id L hL=>exact .mp id L hL
 | bx p cs Y arr T f hω hb hn hcell h1 h=>exact .af
 | own id off len sz c L A hL hl hc hA=>exact .own id off len sz c L A hL hl hc hA
 | cut id off len cap sz c L A hL hl hc hA=>exact .cut id off len cap sz c L A hL hl hc hA
 | ptr id off L hL=>exact .ptr id off L hL
 | fp n cs k o f hl hcell h1 h=>exact .fp n cs k o f hl hcell h1 h
 | fn f g caps us hr hl h=>exact .fn f g caps us hr hl h
 | ae vs us hl h=>
  cases vs with
  | nil=>
   cases us with
   | nil=>exact .ae [] [] rfl (by simp)
   | cons x xs=>simp at hl
  | cons x xs=>exact .af
 | st cs us hl h h1=>exact .st cs us hl h h1
 | af=>exact .af
theorem RepP.cells{aa:Rn}{w:World}{Wr:Nat->Nat->Prop}{v:V}{u:Value}(h:RepP aa w Wr v u) :
  v.cells.length=u.cells.size/\(∀ (i:Nat) (c:V),v.cells[i]?=some c->∃ x,u.cells[i]?=some x/\x.oneCell'=true/\RepP aa w Wr c x):=by
 have one:∀ (v:V) (u:Value),v.cells=[v]->u.cells=#[u]->u.oneCell'=true->RepP aa w Wr v u ->
   v.cells.length=u.cells.size/\(∀ (i:Nat) (c:V),v.cells[i]?=some c->∃ x,u.cells[i]?=some x/\x.oneCell'=true/\RepP aa w Wr c x):=by
  grind
 cases h with
 | sc _ h=>exact one (.sc u) u rfl (by cases u <;> first | rfl | exact absurd h (by simp [Value.oneCell'])) h (.sc u h)
 | agg cs us hl h h1=>
  refine ⟨by simpa [V.cells,Value.cells] using hl,λi c hc=>?_⟩;have hi:i<us.length:=by rw [<- hl]; exact (Wam.1 hc).1
  exact ⟨us[i],by simp [Value.cells],h1 _ (List.getElem_mem hi),h i c _ hc (Wac hi)⟩
 | sl sz es A c f hc hsz k o hA hcell h1 h=>exact one _ _ rfl rfl rfl (.sl sz es A c f hc hsz k o hA hcell h1 h)
 | bv sz es A f hsz k o hA hcell h1 h hon=>exact one _ _ rfl rfl rfl (.bv sz es A f hsz k o hA hcell h1 h hon)
 | fn f g h=>exact one _ _ rfl rfl rfl (.fn f g h)
theorem Rep.plain(hU:∀ Y l h i,E.ω Y=.gs l h->i<h->¬ E.Wr Y i){v':V}(h:Rep aa E l v u)(hp:v.plain=some v'):RepP aa E.w E.Wr v' u:=by
 cases h with
 | pure h=>
  cases h with
  | sc _ h=>cases hp; exact .sc _ h
  | agg cs us hl h h1=>cases hp; exact .agg cs us hl h h1
  | sl sz es A c f hc hsz k o hA hcell h1 h=>cases hp; exact .sl sz es A c f hc hsz k o hA hcell h1 h
  | bv sz es A f hsz k o hA hcell h1 h hon=>cases hp; exact .sl sz es A es.length f (Wah _) hsz k o hA hcell h1 h
  | fn f g h=>cases hp; exact .fn f g h
 | gs sz es Y c arr T f hω hb hc hn hsz hcell h1 h=>
  cases hp;have:=Rep.ag hU (Rep.gs (l:=l) sz es Y c arr T f hω hb hc hn hsz hcell h1 h) l;cases this with
  | pure h=>exact h
 | fr sz es Y c arr T f hω hb hc hn hsz hcell h1 h=>cases hp
 | aU sz A=>cases hp
 | ub b=>cases hp
 | mp id L hL=>cases hp
 | bx p cs Y arr T f hω hb hn hcell h1 h=>cases hp
 | own id off len sz c L A hL hl hc hA=>cases hp
 | cut id off len cap sz c L A hL hl hc hA=>cases hp
 | ptr id off L hL=>cases hp
 | fp n cs k o f hl hcell h1 h=>cases hp
 | fn f g caps us hr hl h=>
  cases caps with
  | nil=>
   cases hp;cases us with
   | nil=>exact .fn f g hr
   | cons x xs=>simp at hl
  | cons x xs=>cases hp
 | ae vs us hl h=>cases hp
 | st cs us hl h h1=>cases hp
 | af=>cases hp
end
section
variable {ty:TypeId}{x u:Value}{v:V}{E:En}{g id sz:Nat}{cs:List V}{l:Loc}{es:Ls}
def env(U:Nat->Nat->Prop)(Z:St)(w:World)(ω:Nat->Ow)(μ:Nat->Nat):En:=⟨w,wr U ω,ω,μ,dS Z.b⟩
def MapRep(aa:Rn)(w:World)(Wr:Nat->Nat->Prop)(es:Lm)(arr:Array MapEntry):Prop:=
 arr.size=es.length/\∀ (j:Nat) (k v:V),es[j]?=some (k,v)->∃ e,arr[j]?=some e/\RepP aa w Wr k e.key/\RepP aa w Wr v e.val
theorem MapRep.mono{aa:Rn}{w w':World}{Wr Wr':Nat->Nat->Prop}(H:∀ k o u,¬ Wr k o->w.cell? ⟨k,o,none⟩=some u->¬ Wr' k o/\w'.cell? ⟨k,o,none⟩=some u){es:Lm}{arr:Array MapEntry}(h:MapRep aa w Wr es arr):MapRep aa w' Wr' es arr:=
 ⟨h.1,λj k v hj=>by obtain ⟨e,h1,h2,h3⟩:=h.2 j k v hj; exact ⟨e,h1,h2.mono H,h3.mono H⟩⟩
def GV(aa:Rn)(w:World)(Wr:Nat->Nat->Prop):Prop:=∀ g cs,aa.g g=some cs->∀ (i:Nat) (v:V),cs[i]?=some v->∃ x,v=.sc x/\x.oneCell'=true/\¬ Wr g i/\w.cell? ⟨g,i,none⟩=some x
theorem GV.mono{aa:Rn}{w w':World}{Wr Wr':Nat->Nat->Prop}(h:GV aa w Wr)(H:∀ k o u,¬ Wr k o->w.cell? ⟨k,o,none⟩=some u->¬ Wr' k o/\w'.cell? ⟨k,o,none⟩=some u):GV aa w' Wr':=by
 intro g cs hg i v hv;obtain ⟨x,h1,h2,h3,h4⟩:=h g cs hg i v hv
 grind
structure Rel (aa:Rn) (we:World) (ωe:Nat->Ow) (U:Nat->Nat->Prop) (O:Nat->Prop) (Z:St) (a:Act) (w:World) (ω:Nat->Ow) (μ:Nat->Nat):Prop where
 df:a.defers=[]
 tl:a.tmps.size=Z.t.length
 ts:∀ (i:Nat) (v:V),Z.t[i]?=some v->Rep aa (env U Z w ω μ) (.slot i 0) v (a.tmps.getD i undef)
 bs:∀ (id:Nat) (p:Bool) (cs:List V),Z.b[id]?=some (.live p cs)->cs=[]∨(ω (μ id)=.ax id/\∃ arr T,w.heap[μ id]?=some (.cells arr T (0,0))/\cs.length<=arr.size /\
  ∀ (j:Nat) (c:V),cs[j]?=some c->∃ u,arr[j]?=some u/\u.oneCell'=true/\(p=true->RepP aa w (wr U ω) c u)/\Rep aa (env U Z w ω μ) (.cell id j) c u)
 fs:∀ (id:Nat) (cs:List V),Z.b[id]?=some (.fz cs)->(∀ o,¬ wr U ω (μ id) o)/\∃ arr T fr,w.heap[μ id]?=some (.cells arr T fr)/\cs.length<=arr.size /\
  ∀ (j:Nat) (c:V),cs[j]?=some c->∃ u,arr[j]?=some u/\u.oneCell'=true/\RepP aa w (wr U ω) c u
 ms:∀ (id:Nat) (es:Lm),Z.b[id]?=some (.mp es)->ω (μ id)=.ax id/\∃ arr clock,w.heap[μ id]?=some (.map arr clock)/\MapRep aa w (wr U ω) es arr
 kp:Kept O we w
 ow:∀ k,ω k≠.no->(we.heap.size<=k∨O k)/\k<w.heap.size
 ul:∀ k o,U k o->k<we.heap.size/\¬ O k
 fr:∀ k o u,¬ wr U ωe k o->we.cell? ⟨k,o,none⟩=some u->¬ wr U ω k o/\w.cell? ⟨k,o,none⟩=some u
 rs:∀ k,eR we k<=eR w k
 gv:GV aa we (wr U ωe)
variable {aa:Rn} {we:World} {ωe:Nat->Ow} {U:Nat->Nat->Prop} {O:Nat->Prop} {Z:St} {a:Act} {w:World} {ω:Nat->Ow} {μ:Nat->Nat} {P:Program}
theorem Rel.hU(R:Rel aa we ωe U O Z a w ω μ):∀ Y l h i,(env U Z w ω μ).ω Y=.gs l h->i<h->¬ (env U Z w ω μ).Wr Y i:=by
 intro Y l h i hω hi hw;have hω:ω Y=.gs l h:=hω;have hw:wr U ω Y i:=hw;rcases hw with h' | h'
 ·have h1:=R.ul _ _ h';have h2:=(R.ow Y (by rw [hω]; simp)).1
  grind
 ·grind
def Src.loc:Src->Loc
 | .tmp t=>.slot t 0
 | .const _=>.slot 0 0
theorem Rel.slot(R:Rel aa we ωe U O Z a w ω μ)(t:Nat):Rep aa (env U Z w ω μ) (.slot t 0) (Z.t.getD t .af) (a.tmps.getD t undef):=by
 cases h:Z.t[t]? with
 | none=>rw [Wak,h]; exact .af
 | some v=>rw [Wak,h]; exact R.ts t v h
theorem TL(h:K1 P ty x=some v)(E:En)(l:Loc):Rep aa E l v x:=by
 unfold K1 at h;split at h
 ·cases h; exact .pure (.sc _ rfl)
 ·cases h; exact .pure (.sc _ rfl)
 ·cases h; exact .pure (.sc _ rfl)
 ·split at h
  ·cases hs:eJ P ‹_› with
   | none=>simp [hs] at h
   | some n=>simp [hs] at h; subst h; exact .pure (.nil _ _)
  ·cases h
 ·cases h; exact .pure (.sc _ rfl)
 ·cases h; exact .pure (.sc _ rfl)
 ·cases h; exact .pure (.sc _ rfl)
 ·cases h
theorem GV.rep(h:GV aa E.w E.Wr)(hg:aa.g g=some cs)(l:Loc):Rep aa E l (.fp cs.length cs) (.pointer (some ⟨g,0,none⟩)):=by
 have hx:∀ (i:Nat) (v:V),cs[i]?=some v->∃ x,v=.sc x/\x.oneCell'=true/\¬ E.Wr g i/\E.w.cell? ⟨g,i,none⟩=some x:=h g cs hg;refine .fp cs.length cs g 0 (λi=>match cs[i]? with | some (.sc x)=>x | _=>undef) rfl (λi v hv=>?_) (λi v hv=>?_) (λi v hv=>?_)
 ·obtain ⟨x,rfl,_,h3,h4⟩:=hx i v hv;rw [Wau,hv]; exact ⟨h3,h4⟩
 ·obtain ⟨x,rfl,h2,_,_⟩:=hx i v hv;rw [hv]; exact h2
 ·obtain ⟨x,rfl,h2,_,_⟩:=hx i v hv;rw [hv]; exact .sc x h2
theorem Rel.gvn(R:Rel aa we ωe U O Z a w ω μ):GV aa w (wr U ω):=R.gv.mono R.fr
theorem Rel.opnd(R:Rel aa we ωe U O Z a w ω μ){x:Operand}{s:Src}(h:du P aa ty x=some s):Rep aa (env U Z w ω μ) s.loc (s.get Z) (a.eval x):=by
 cases x with
 | tmp t=>cases h; exact R.slot t
 | const v=>
  cases hc:K1 P ty v with
  | none=>simp [du,hc] at h
  | some v'=>simp [du,hc] at h; subst h; exact TL hc _ _
 | global g=>
  cases hg:aa.g g with
  | none=>simp [du,hg] at h
  | some cs=>simp [du,hg] at h; subst h; exact GV.rep (E:=env U Z w ω μ) R.gvn hg _
 | func f=>
  cases hr:aa f with
  | none=>simp [du,hr] at h
  | some g=>simp [du,hr] at h; subst h; exact .pure (.fn f g hr)
theorem Rep.aA{v:Value}(h:Rep aa E l (.sc v) u):u=v/\v.oneCell'=true:=by
 cases h with
 | pure h=>cases h with | sc _ h=>exact ⟨rfl,h⟩
theorem Rep.int{E:En}{l:Loc}{v:V}{u:Value}{n:Int}(h:Rep aa E l v u)(hn:v.int?=some n):∃ k,u=.int k n:=by
 cases v <;> simp [V.int?] at hn;rename_i v;cases v <;> simp at hn;subst hn;exact ⟨_,h.aA.1⟩
theorem Rep.bool{E:En}{l:Loc}{v:V}{u:Value}{n:Bool}(h:Rep aa E l v u)(hn:v.bool?=some n):u=.bool n:=by
 cases v <;> simp [V.bool?] at hn;rename_i v;cases v <;> simp at hn;subst hn;exact h.aA.1
theorem Rep.aZ(h:Rep aa E l (.agg cs) u):RepP aa E.w E.Wr (.agg cs) u:=by
 cases h with
 | pure h=>exact h
theorem Rep.ar{off:Nat}(h:Rep aa E l (.ptr id off) u):∃ L,E.bl id=some L/\u=.pointer (some ⟨E.μ id,off,none⟩):=by
 cases h with
 | pure h=>cases h
 | ptr _ _ L hL=>exact ⟨L,hL,rfl⟩
theorem Rep.a6{n:Nat}(h:Rep aa E l (.fp n cs) u):∃ (k o:Nat) (f:Nat->Value),u=.pointer (some ⟨k,o,none⟩)/\cs.length=n /\
  (∀ (i:Nat) (v:V),cs[i]?=some v->¬ E.Wr k (o+i)/\E.w.cell? ⟨k,o+i,none⟩=some (f i))/\(∀ (i:Nat) (v:V),cs[i]?=some v->(f i).oneCell'=true)/\(∀ (i:Nat) (v:V),cs[i]?=some v->RepP aa E.w E.Wr v (f i)):=by
 cases h with
 | pure h=>cases h
 | fp _ _ k o f hl hcell h1 h=>exact ⟨k,o,f,rfl,hl,hcell,h1,h⟩
theorem RepP.aV{Wr:Nat->Nat->Prop}(h:RepP aa w Wr (.sl sz es) u):∃ (A:Option Addr) (c:Nat) (f:Nat->Value) (k o:Nat),u=.slice A es.length c/\es.length<=c/\(∀ e∈es,e.length=sz)/\(es≠[]->A=some ⟨k,o,none⟩) /\
  (∀ (i:Nat) (v:V),es.flatten[i]?=some v->¬ Wr k (o+i)/\w.cell? ⟨k,o+i,none⟩=some (f i))/\(∀ (i:Nat) (v:V),es.flatten[i]?=some v->(f i).oneCell'=true)/\(∀ (i:Nat) (v:V),es.flatten[i]?=some v->RepP aa w Wr v (f i)):=by
 cases h with
 | sl _ _ A c f hc hsz k o hA hcell h1 h=>exact ⟨A,c,f,k,o,rfl,hc,hsz,hA,hcell,h1,h⟩
theorem Rep.aK(h:Rep aa E l (.sl sz es) u):RepP aa E.w E.Wr (.sl sz es) u:=by
 cases h with
 | pure h=>exact h
theorem Rep.own_inv{off len:Nat}(h:Rep aa E l (.own id off len sz) u):∃ c L A,u=.slice A len c/\E.bl id=some L/\off+len*sz<=L/\(len<=c/\(L=0->sz=0∨c=0)) /\
  ((A=some ⟨E.μ id,off,none⟩/\off+c*sz<=eR E.w (E.μ id))∨(len=0/\c=0)):=by
 cases h with
 | pure h=>cases h
 | own _ _ _ _ c L A hL hl hc hA=>grind
theorem Rep.cut_inv{off len cap:Nat}(h:Rep aa E l (.cut id off len cap sz) u):∃ c L A,u=.slice A len c/\E.bl id=some L/\off+cap*sz<=L/\(len<=cap/\cap<=c/\(L=0->sz=0∨c=0)) /\
  ((A=some ⟨E.μ id,off,none⟩/\off+c*sz<=eR E.w (E.μ id))∨(cap=0/\c=0)):=by
 cases h with
 | pure h=>cases h
 | cut _ _ _ _ _ c L A hL hl hc hA=>grind
theorem Rep.be(h:Rep aa E l (.mp id) u):∃ L,E.bl id=some L/\u=.map (some (E.μ id)):=by
 cases h with
 | pure h=>cases h
 | mp _ L hL=>exact ⟨L,hL,rfl⟩
theorem Rep.bn{caps:List V}(h:Rep aa E l (.fn g caps) u):∃ f us,u=.func (.func f) #[] (List.toArray us)/\aa f=some g/\caps.length=us.length /\
  (∀ (i:Nat) (c:V),caps[i]?=some c->∃ id off L,c=.ptr id off/\E.bl id=some L/\us[i]?=some (.pointer (some ⟨E.μ id,off,none⟩))):=by
 cases h with
 | pure h=>cases h with | fn f _ h=>exact ⟨f,[],rfl,h,rfl,by simp⟩
 | fn f _ _ us hr hl h=>exact ⟨f,us,rfl,hr,hl,h⟩
theorem Rep.tup_inv{vs:List V}(h:Rep aa E l (.ae vs) u):∃ us,u=.tuple (List.toArray us)/\vs.length=us.length/\(∀ (j:Nat) (v:V) (u:Value),vs[j]?=some v->us[j]?=some u->Rep aa E (l.sub j) v u):=by
 cases h with
 | pure h=>cases h
 | ae _ us hl h=>exact ⟨us,rfl,hl,h⟩
theorem Rep.st_inv(h:Rep aa E l (.st cs) u):∃ us,u=.agg (List.toArray us)/\cs.length=us.length/\(∀ (i:Nat) (c:V) (u:Value),cs[i]?=some c->us[i]?=some u->RepP aa E.w E.Wr c u∨OwnAt E c u)/\(∀ u∈us,u.oneCell'=true):=by
 cases h with
 | pure h=>cases h
 | st _ us hl h h1=>exact ⟨us,rfl,hl,h,h1⟩
theorem Po{a b:Prop}(h:¬ a->b):a∨b:=(Classical.em a).elim .inl (λn=>.inr (h n))
theorem Rel.live(R:Rel aa we ωe U O Z a w ω μ){p:Bool}(h:Z.b[id]?=some (.live p cs))(hne:cs≠[]):ω (μ id)=.ax id/\∃ arr T,w.heap[μ id]?=some (.cells arr T (0,0))/\cs.length<=arr.size /\
  ∀ (j:Nat) (c:V),cs[j]?=some c->∃ u,arr[j]?=some u/\u.oneCell'=true/\(p=true->RepP aa w (wr U ω) c u)/\Rep aa (env U Z w ω μ) (.cell id j) c u:=
 (R.bs id p cs h).resolve_left hne
theorem RepP.loc(h:RepP aa E.w E.Wr v u)(l:Loc):Rep aa E l v u:=.pure h
theorem zeR{op:BinOp}{y r:Value}(t:TypeId)(ox oy:Operand)(h:g8 op x y=some r) :
  (eqGuard op t ox oy x y).run P w=.ok () w/\(binOp op t x y).run P w=.ok r w/\r.oneCell'=true:=by
 unfold g8 at h;split at h
 ·split at h
  ·cases h
  ·rename_i hb; cases h;refine ⟨?_,?_,rfl⟩
   ·simp [eqGuard]
   ·simp [binOp,Op.shift,hb]
 ·split at h
  ·cases h
  ·rename_i hb; cases h;refine ⟨?_,?_,rfl⟩
   ·simp [eqGuard]
   ·simp [binOp,Op.shift,hb]
 ·split at h
  ·cases h
  ·rename_i hk;simp at hk;subst hk;split at h <;> first
    | (cases h; refine ⟨by simp [eqGuard],by simp [binOp,Op.intArith,Op.intBits,Op.intCmp],rfl⟩; done)
    | (split at h; cases h; rename_i hb; cases h; exact ⟨by simp [eqGuard],by simp [binOp,Op.intDiv,hb],rfl⟩)
    | cases h
 ·cases h; exact ⟨by simp [eqGuard],by simp [binOp,Op.stringOp],rfl⟩
 ·cases h; exact ⟨by simp [eqGuard],by simp [binOp,Op.stringOp],rfl⟩
 ·cases h; exact ⟨by simp [eqGuard],by simp [binOp,Op.stringOp],rfl⟩
 ·cases h
theorem zh1{op:UnOp}{r:Value}(h:JM op x=some r):(Op.unary op x).run P w=.ok r w/\r.oneCell'=true:=by
 unfold JM at h;split at h
 ·cases h; exact ⟨by simp [Op.unary,Op.intArith],rfl⟩
 ·cases h; exact ⟨by simp [Op.unary],rfl⟩
 ·cases h; exact ⟨by simp [Op.unary,Op.intBits],rfl⟩
 ·cases h
end
section
variable {cs:List V}{off:Nat}{Wr:Nat->Nat->Prop}{v:V}{u:Value}{us:List Value}{E:En}
variable {aa:Rn} {we:World} {ωe:Nat->Ow} {U:Nat->Nat->Prop} {O:Nat->Prop} {Z:St} {a:Act} {w:World} {ω:Nat->Ow} {μ:Nat->Nat} {P:Program}
theorem AR{new:List V}(h:off+new.length<=cs.length):(cq cs off new).length=cs.length:=by
 grind [cq]
theorem tm{α:Type}{cs new:List α}(h:off+new.length<=cs.length)(i:Nat) :
  (cs.take off++new++cs.drop (off+new.length))[i]?=if off<=i/\i<off+new.length then new[i-off]? else cs[i]?:=by
 have hm:min off cs.length=off:=by omega
 by_cases h1:i<off
 ·rw [if_neg (by omega),List.append_assoc,Wan (by simp; omega),Wai,if_pos h1]
 ·by_cases h2:i<off+new.length
  ·rw [if_pos ⟨by omega,h2⟩,List.append_assoc,Wal (by simp; omega),Wan (by simp; omega)];simp [hm]
  ·rw [if_neg (by omega),Wal (by simp; omega),Waj];congr 1;simp [hm]; omega
def CellsP(aa:Rn)(w:World)(Wr:Nat->Nat->Prop)(cs:List V)(us:List Value):Prop:=
 cs.length=us.length/\∀ (i:Nat) (c:V),cs[i]?=some c->∃ u,us[i]?=some u/\u.oneCell'=true/\RepP aa w Wr c u
theorem CellsP.agg{Wr:Nat->Nat->Prop}{cs:List V}{us:List Value}(h:CellsP aa w Wr cs us):RepP aa w Wr (.agg cs) (.agg us.toArray):=by
 refine .agg cs us h.1 (λi c u hc hu=>?_) (λu hu=>?_)
 ·obtain ⟨x,hx,_,hr⟩:=h.2 i c hc
  grind
 ·obtain ⟨i,hi,rfl⟩:=War hu;have hlt:i<cs.length:=by rw [h.1]; exact hi
  obtain ⟨x,hx,h1,_⟩:=h.2 i _ (Wac hlt);rw [Wac hi] at hx; cases hx; exact h1
theorem RepP.bg(h:RepP aa w Wr v u):CellsP aa w Wr v.cells u.cells.toList:=by
 obtain ⟨h1,h2⟩:=h.cells;refine ⟨by simpa using h1,λi c hc=>?_⟩
 grind
theorem CellsP.of_agg(h:RepP aa w Wr (.agg cs) u):∃ us:List Value,u=.agg us.toArray/\CellsP aa w Wr cs us:=by
 cases h with
 | agg _ us hl h h1=>
  refine ⟨us,rfl,hl,λi c hc=>?_⟩;have hi:i<us.length:=by grind
  exact ⟨us[i],Wac hi,h1 _ (List.getElem_mem hi),h i c _ hc (Wac hi)⟩
theorem CellsP.setAt{new:List V}{xs:List Value}(h:CellsP aa w Wr cs us)(hn:CellsP aa w Wr new xs)(hl:off+new.length<=cs.length) :
  CellsP aa w Wr (cq cs off new) (us.take off++xs++us.drop (off+xs.length)):=by
 have e1:=h.1;have e2:=hn.1;refine ⟨?_,λi c hc=>?_⟩
 ·grind [AR]
 ·unfold cq at hc;rw [tm hl] at hc;rw [tm (by omega),<- e2];split at hc
  ·rename_i hi;rw [if_pos hi]; exact hn.2 _ c hc
  ·rename_i hi;rw [if_neg hi]; exact h.2 i c hc
theorem CellsP.dropTake(h:CellsP aa w Wr cs us)(o n:Nat):CellsP aa w Wr ((cs.drop o).take n) ((us.drop o).take n):=by
 have e1:=h.1;refine ⟨by simp [e1],λi c hc=>?_⟩;rw [Wai] at hc ⊢;split at hc
 ·rename_i hi;rw [if_pos hi];rw [Waj] at hc ⊢;exact h.2 _ c hc
 ·cases hc
theorem CellsP.mono{w':World}{Wr Wr':Nat->Nat->Prop}{cs:List V}{us:List Value}(h:CellsP aa w Wr cs us)
  (H:∀ k o u,¬ Wr k o->w.cell? ⟨k,o,none⟩=some u->¬ Wr' k o/\w'.cell? ⟨k,o,none⟩=some u):CellsP aa w' Wr' cs us:=
 ⟨h.1,λi c hc=>by obtain ⟨u,h1,h2,h3⟩:=h.2 i c hc; exact ⟨u,h1,h2,h3.mono H⟩⟩
theorem Oc(off:Nat):∀ (l:List Value) (n:Nat) (cells:Array Value),off+n+l.length<=cells.size ->
  ((l.zipIdx n).foldl (λcs (p:Value × Nat)=>cs.setIfInBounds (off+p.2) p.1) cells).toList=cells.toList.take (off+n)++l++cells.toList.drop (off+n+l.length)
 | [],n,cells,h=>by simp
 | x::l,n,cells,h=>by
  simp only [List.zipIdx_cons,List.foldl_cons];simp at h;rw [Oc off l (n+1) _ (by simp; omega)];have e:=list_seg_step cells.toList (off+n) x l (by simp; omega);simp only [Array.toList_setIfInBounds,<- Nat.add_assoc] at e ⊢;rw [e];simp [Nat.add_assoc]
theorem RE(R:Rel aa we ωe U O Z a w ω μ)(place:Nat->Option (Nat × TypeId))(placeR:Nat->Option (Nat × Nat))
  (hpl:∀ i off ty n,place i=some (off,ty)->eJ P ty=some n->placeR i=some (off,n)) :
  ∀ (parts:List (Nat × Operand)) (ps:List (Nat × Nat × Src)) (cs cs':List V) (arr:Array Value),wj P aa place parts=some ps->kF Z ps cs=some cs' ->
   CellsP aa w (wr U ω) cs arr.toList->∃ arr':Array Value,Instr.fill placeR arr (parts.map λp=>(p.1,a.eval p.2))=some arr'/\CellsP aa w (wr U ω) cs' arr'.toList
 | [],ps,cs,cs',arr,hc,hf,h=>by cases hc; cases hf; exact ⟨arr,rfl,h⟩
 | (i,x)::parts,ps,cs,cs',arr,hc,hf,h=>by
  simp [wj,Waa] at hc;obtain ⟨off,ty,h1,s,h2,n,h3,rest,h4,rfl⟩:=hc;simp only [kF,Wab,Waa] at hf;obtain ⟨v,hv,hf⟩:=hf;split at hf
  ·rename_i hln;have hr:=(R.opnd h2).plain R.hU hv;have hcp:=hr.bg;have e1:=hcp.1;have e2:=h.1;simp at e1 e2;have hs:((a.eval x).cells.zipIdx.foldl (λcs (p:Value × Nat)=>cs.setIfInBounds (off+p.2) p.1) arr).toList=arr.toList.take off++(a.eval x).cells.toList++arr.toList.drop (off+(a.eval x).cells.toList.length):=by
    have:=Oc off (a.eval x).cells.toList 0 arr (by simp; omega);rw [<- Wat,Was];simpa using this
   obtain ⟨arr',g1,g2⟩:=RE R place placeR hpl parts rest _ cs' _ h4 hf (by rw [hs]; exact h.setAt hcp (by omega));refine ⟨arr',?_,g2⟩;simp only [List.map_cons,Instr.fill,hpl i off ty n h1 h3];rw [if_neg (by simp; omega)];exact g1
  ·cases hf
def CellsQ(aa:Rn)(E:En)(cs:List V)(us:List Value):Prop:=
 cs.length=us.length/\∀ (i:Nat) (c:V),cs[i]?=some c->∃ u,us[i]?=some u/\u.oneCell'=true/\(RepP aa E.w E.Wr c u∨OwnAt E c u)
theorem CellsP.toQ(h:CellsP aa E.w E.Wr cs us):CellsQ aa E cs us:=
 ⟨h.1,λi c hc=>by obtain ⟨u,h1,h2,h3⟩:=h.2 i c hc; exact ⟨u,h1,h2,.inl h3⟩⟩
theorem CellsQ.setAt{new:List V}{un:List Value}(h:CellsQ aa E cs us)(hn:CellsQ aa E new un)(hb:off+new.length<=cs.length):CellsQ aa E (cq cs off new) (us.take off++un++us.drop (off+un.length)):=by
 have e1:=h.1;have e2:=hn.1;refine ⟨by simp [cq,e1,e2],λi c hc=>?_⟩;simp [cq] at hc ⊢;rw [Wap] at hc ⊢;simp [show min off cs.length=off by omega,show min off us.length=off by omega] at hc ⊢;split at hc
 ·rename_i hi;rw [if_pos hi];rw [Wai,if_pos hi] at hc ⊢;exact h.2 i c hc
 ·rename_i hi;rw [if_neg hi];rw [Wap] at hc ⊢;split at hc
  ·rename_i hi2;rw [if_pos (by omega)];exact hn.2 _ c hc
  ·rename_i hi2;rw [if_neg (by omega)];rw [Waj] at hc ⊢;rw [<- e2];exact h.2 _ c hc
theorem OwnAt.isOwn(h:OwnAt E v u):v.cells=[v]/\u.cells=#[u]/\u.oneCell'=true:=by
 obtain ⟨id,off,len,sz,c,L,A,rfl,rfl,_⟩:=h;exact ⟨rfl,rfl,rfl⟩
theorem Rep.refd'(hU:∀ Y l h i,E.ω Y=.gs l h->i<h->¬ E.Wr Y i){l:Loc}{v':V}(h:Rep aa E l v u)(hp:v.aN=some v'):CellsQ aa E v'.cells u.cells.toList:=by
 have:RepP aa E.w E.Wr v' u∨OwnAt E v' u:=by
  cases v with
  | own id off len sz=>cases hp; exact .inr h.bt
  | _=>exact .inl (h.plain hU hp)
 rcases this with h | h
 ·exact h.bg.toQ
 ·obtain ⟨e1,e2,e3⟩:=h.isOwn;rw [e1,e2];refine ⟨rfl,λi c hc=>?_⟩
  grind
theorem XT(R:Rel aa we ωe U O Z a w ω μ)(place:Nat->Option (Nat × TypeId))(placeR:Nat->Option (Nat × Nat))
  (hpl:∀ i off ty n,place i=some (off,ty)->eJ P ty=some n->placeR i=some (off,n)) :
  ∀ (parts:List (Nat × Operand)) (ps:List (Nat × Nat × Src)) (cs cs':List V) (arr:Array Value),wj P aa place parts=some ps->nj Z ps cs=some cs' ->
   CellsQ aa (env U Z w ω μ) cs arr.toList->∃ arr':Array Value,Instr.fill placeR arr (parts.map λp=>(p.1,a.eval p.2))=some arr'/\CellsQ aa (env U Z w ω μ) cs' arr'.toList
 | [],ps,cs,cs',arr,hc,hf,h=>by cases hc; cases hf; exact ⟨arr,rfl,h⟩
 | (i,x)::parts,ps,cs,cs',arr,hc,hf,h=>by
  simp [wj,Waa] at hc;obtain ⟨off,ty,h1,s,h2,n,h3,rest,h4,rfl⟩:=hc;simp only [nj,Wab,Waa] at hf;obtain ⟨v,hv,hf⟩:=hf;split at hf
  ·rename_i hln;have hcp:=Rep.refd' R.hU (R.opnd h2) hv;have e1:=hcp.1;have e2:=h.1;simp at e1 e2;have hs:((a.eval x).cells.zipIdx.foldl (λcs (p:Value × Nat)=>cs.setIfInBounds (off+p.2) p.1) arr).toList=arr.toList.take off++(a.eval x).cells.toList++arr.toList.drop (off+(a.eval x).cells.toList.length):=by
    have:=Oc off (a.eval x).cells.toList 0 arr (by simp; omega);rw [<- Wat,Was];simpa using this
   obtain ⟨arr',g1,g2⟩:=XT R place placeR hpl parts rest _ cs' _ h4 hf (by rw [hs]; exact h.setAt hcp (by omega));refine ⟨arr',?_,g2⟩;simp only [List.map_cons,Instr.fill,hpl i off ty n h1 h3];rw [if_neg (by simp; omega)];exact g1
  ·cases hf
theorem pT{α Y:Type}{f:α->Option Y}:∀ {l:List α} {r:List Y},l.mapM f=some r->∀ (i:Nat) (x:α),l[i]?=some x->∃ b,r[i]?=some b/\f x=some b
 | [],r,h,i,x,hx=>by simp at hx
 | y::l,r,h,i,x,hx=>by
  simp [Waa] at h;obtain ⟨b,hb,bs,hbs,rfl⟩:=h;cases i with
  | zero=>grind
  | succ i=>simp at hx; obtain ⟨c,h1,h2⟩:=pT hbs i x hx; grind
theorem mQ{α Y:Type}{f:α->Option Y}:∀ {l:List α} {r:List Y},l.mapM f=some r->r.length=l.length
 | [],r,h=>by simp at h; subst h; rfl
 | y::l,r,h=>by
  simp [Waa] at h;obtain ⟨b,hb,bs,hbs,rfl⟩:=h;simp [mQ hbs]
end
section
variable {Wr:Nat->Nat->Prop}{v:V}{t:TypeId}{cs:List V}{n:Nat}{o:Oper}
variable {aa:Rn} {we:World} {ωe:Nat->Ow} {U:Nat->Nat->Prop} {O:Nat->Prop} {Z:St} {a:Act} {w:World} {ω:Nat->Ow} {μ:Nat->Nat} {P:Program}
def jC(P:Program)(aa:Rn)(E:En)(a:Act)(o:Oper)(v:V):Prop:=
 ∃ u,(execOp a.eval o).run P E.w=.ok (.value u) E.w/\∀ l,Rep aa E l v u
theorem zdQ{u:Value}(h:ZI v u=true):u.oneCell'=true/\RepP aa w Wr v u:=by
 unfold ZI at h;split at h
 ·simp at h; subst h; exact ⟨rfl,.sc _ rfl⟩
 ·simp at h; obtain ⟨rfl,rfl⟩:=h; exact ⟨rfl,.sc _ rfl⟩
 ·rename_i x y;simp only [Bool.and_eq_true,beq_iff_eq] at h;have:x=y:=by
   simp_all
  subst this;exact ⟨rfl,.sc _ rfl⟩
 ·exact ⟨rfl,.sc _ rfl⟩
 ·exact ⟨rfl,.sc _ rfl⟩
 ·exact ⟨rfl,.sc _ rfl⟩
 ·exact ⟨rfl,.nil _ _⟩
 ·cases h
theorem MP{Wr:Nat->Nat->Prop}:∀ {vs:List V} {us:List Value},z8 vs us=true->CellsP aa w Wr vs us
 | [],[],h=>⟨rfl,by simp⟩
 | v::vs,u::us,h=>by
  simp [z8] at h;obtain ⟨e,ih⟩:=MP h.2;refine ⟨by simp [e],λi c hc=>?_⟩;cases i with
  | zero=>simp at hc; subst hc; obtain ⟨h1,h2⟩:=zdQ (aa:=aa) (w:=w) (Wr:=Wr) h.1; exact ⟨u,by simp,h1,h2⟩
  | succ i=>simp at hc; obtain ⟨x,hx⟩:=ih i c hc; exact ⟨x,by simpa using hx⟩
 | [],u::us,h=>by simp [z8] at h
 | v::vs,[],h=>by simp [z8] at h
theorem rg(h:qv P t=some cs):∃ i z,P.info? t=some i/\i.zero=some z/\CellsP aa w Wr cs z.cells.toList:=by
 unfold qv at h;simp only [Wab,Waa] at h
 grind [MP]
theorem oA(h:eJ P t=some n):∃ i,P.info? t=some i/\i.size=n:=by
 unfold eJ at h
 simp_all
theorem hH(h:eJ P t=some n)(w:World):(sizeOf t).run P w=.ok n w:=by
 obtain ⟨i,hi,e⟩:=oA h;simp [sizeOf,typeInfo,hi,e]
theorem Pa{b:Bool}(h:iC P t=some b)(w:World):(isAgg t).run P w=.ok b w:=by
 unfold iC at h;cases hu:P.underlying t with
 | none=>simp [hu] at h
 | some d=>
  simp [hu] at h;subst h;unfold isAgg;rw [Sem.run_bind,run_underlying hu w];cases d <;> simp
theorem zjY(R:Rel aa we ωe U O Z a w ω μ){c x y:Operand}(hop:o.op=.pick c x y){sc sx sy:Src}{t1 t2 t3:TypeId}(h1:du P aa t1 c=some sc)(h2:du P aa t2 x=some sx)(h3:du P aa t3 y=some sy)
   (hp:cJ Z (.pick sc sx sy)=some v):jC P aa (env U Z w ω μ) a o v:=by
 simp only [cJ,Wab,Waa,Option.pure_def,Waf] at hp;obtain ⟨t,ht,rfl⟩:=hp;have hc:=(R.opnd h1).bool ht;refine ⟨if t then a.eval x else a.eval y,?_,λl=>?_⟩
 ·simp [execOp,hop,hc,asBool]
 ·cases t
  ·exact (R.opnd h3).ag R.hU l
  ·exact (R.opnd h2).ag R.hU l
theorem vG{us:List Value}(h:CellsP aa w Wr cs us):CellsP aa w Wr (cs.map V.ag) us:=by
 refine ⟨by simpa using h.1,λi c hc=>?_⟩;rw [List.getElem?_map] at hc;cases hci:cs[i]? with
 | none=>simp [hci] at hc
 | some c'=>
  simp [hci] at hc; subst hc;obtain ⟨u,g1,g2,g3⟩:=h.2 i c' hci;refine ⟨u,g1,g2,?_⟩;cases g3 with
  | sc _ h=>exact .sc _ h
  | agg cs us hl h h1=>exact .agg cs us hl h h1
  | sl sz es A c f hc hsz k o hA hcell h1 h=>exact .sl sz es A c f hc hsz k o hA hcell h1 h
  | bv sz es A f hsz k o hA hcell h1 h hon=>exact .sl sz es A es.length f (Wah _) hsz k o hA hcell h1 h
  | fn f g h=>exact .fn f g h
theorem zh6(R:Rel aa we ωe U O Z a w ω μ){take:Bool}{xs:List Nat}{parts:Array (Nat × Operand)}(hop:o.op=.build t parts){k:K}(hk:cK P aa o take xs=some k)(hp:cJ Z k=some v):jC P aa (env U Z w ω μ) a o v:=by
 unfold cK at hk;rw [hop] at hk;simp only [Wab,Waa] at hk;obtain ⟨z,hz,d,hd,hk⟩:=hk;obtain ⟨it,zv,hit,hzv,hcp⟩:=rg (aa:=aa) (w:=w) (Wr:=wr U ω) hz;have keyS:∀ (place:Nat->Option (Nat × TypeId)) (placeR:Nat->Option (Nat × Nat)) (ps:List (Nat × Nat × Src)),(∀ i off ty n,place i=some (off,ty)->eJ P ty=some n->placeR i=some (off,n)) ->
   wj P aa place parts.toList=some ps->cJ Z (.az z ps)=some v->(∀ arr',Instr.fill placeR zv.cells (parts.toList.map λp=>(p.1,a.eval p.2))=some arr'->P.built t (parts.map λ(i,x)=>(i,a.eval x)).toList=some arr')->jC P aa (env U Z w ω μ) a o v:=by
  intro place placeR ps h1 h2 h3 h4;simp [cJ,Waa] at h3;obtain ⟨cs',hf,rfl⟩:=h3;obtain ⟨arr',g1,g2⟩:=XT R place placeR h1 parts.toList ps z cs' zv.cells h2 hf hcp.toQ;refine ⟨.agg arr',?_,λl=>?_⟩
  ·simp [execOp,hop,run_build _ t _ arr' (h4 arr' g1)]
  ·have:Rep aa (env U Z w ω μ) l (.st cs') (.agg (List.toArray arr'.toList)):=by
    refine .st cs' arr'.toList g2.1 (λi c u hc hu=>?_) (λu hu=>?_)
    ·obtain ⟨u',q1,_,q3⟩:=g2.2 i c hc
     grind
    ·obtain ⟨i,hi,e⟩:=War hu;obtain ⟨u',q1,q2,_⟩:=g2.2 i _ (Wac (by rw [g2.1]; exact hi))
     grind
   simpa using this
 have hcz:CellsP aa w (wr U ω) (if xs.isEmpty then z.map V.ag else z) zv.cells.toList:=by
  grind [vG]
 have key:∀ (place:Nat->Option (Nat × TypeId)) (placeR:Nat->Option (Nat × Nat)) (ps:List (Nat × Nat × Src)),(∀ i off ty n,place i=some (off,ty)->eJ P ty=some n->placeR i=some (off,n)) ->
   wj P aa place parts.toList=some ps->cJ Z (.build (if xs.isEmpty then z.map V.ag else z) ps)=some v->(∀ arr',Instr.fill placeR zv.cells (parts.toList.map λp=>(p.1,a.eval p.2))=some arr'->P.built t (parts.map λ(i,x)=>(i,a.eval x)).toList=some arr')->jC P aa (env U Z w ω μ) a o v:=by
  intro place placeR ps h1 h2 h3 h4;simp only [cJ,Wab,Waa,Option.pure_def,Waf] at h3;obtain ⟨cs',hf,rfl⟩:=h3;obtain ⟨arr',g1,g2⟩:=RE R place placeR h1 parts.toList ps _ cs' zv.cells h2 hf hcz;refine ⟨.agg arr',?_,λl=>.pure ?_⟩
  ·simp [execOp,hop,run_build _ t _ arr' (h4 arr' g1)]
  ·have:RepP aa w (wr U ω) (.agg cs') (.agg arr'):=by simpa using g2.agg
   exact this
 split at hk
 ·simp only [Waa,Waf] at hk;obtain ⟨places,hpl,ps,hps,rfl⟩:=hk;rename_i fs;have hA:∀ i off ty n,JI fs i=some (off,ty)->eJ P ty=some n->places.toArray[i]?=some (off,n):=by
   intro i off ty n hpi hn;unfold JI at hpi;cases hf:fs[i]? with
   | none=>simp [hf] at hpi
   | some f=>
    simp [hf] at hpi;obtain ⟨rfl,rfl⟩:=hpi;obtain ⟨inf,hinf,e⟩:=oA hn;have hf':fs.toList[i]?=some f:=by simpa using hf
    obtain ⟨b,hb,hb'⟩:=pT hpl i f hf'
    grind
  have hB:∀ arr',Instr.fill (λi=>places.toArray[i]?) zv.cells (parts.toList.map λp=>(p.1,a.eval p.2))=some arr'->P.built t (parts.map λ(i,x)=>(i,a.eval x)).toList=some arr':=by
   intro arr' g;unfold Program.built
   simp_all
  cases take with
  | true=>exact keyS _ (λi=>places.toArray[i]?) ps hA hps hp hB
  | false=>exact key _ (λi=>places.toArray[i]?) ps hA hps hp hB
 ·rename_i n e;simp only [Waa,Waf] at hk;obtain ⟨sz,hsz,ps,hps,rfl⟩:=hk;obtain ⟨ie,hie,e1⟩:=oA hsz;have hA:∀ i off ty n,(λi=>some (i*sz,e)) i=some (off,ty)->eJ P ty=some n->(λi=>some (i*ie.size,ie.size)) i=some (off,n):=by
   grind
  have hB:∀ arr',Instr.fill (λi=>some (i*ie.size,ie.size)) zv.cells (parts.toList.map λp=>(p.1,a.eval p.2))=some arr'->P.built t (parts.map λ(i,x)=>(i,a.eval x)).toList=some arr':=by
   intro arr' g;unfold Program.built
   simp_all
  cases take with
  | true=>exact keyS _ (λi=>some (i*ie.size,ie.size)) ps hA hps hp hB
  | false=>exact key _ (λi=>some (i*ie.size,ie.size)) ps hA hps hp hB
 ·cases hk
theorem zbJ(R:Rel aa we ωe U O Z a w ω μ){x:Operand}(hop:o.op=.nilCheck x){s:Src}{t1:TypeId}(h1:du P aa t1 x=some s)
   (hp:cJ Z (.nilCheck s)=some v):jC P aa (env U Z w ω μ) a o v:=by
 have hr:=R.opnd h1;simp [cJ] at hp;split at hp
 ·rename_i id off hg;cases hp;rw [hg] at hr;obtain ⟨L,hL,e⟩:=hr.ar;exact ⟨a.eval x,by simp only [execOp,hop,e]; rfl,λl=>by rw [e]; exact .ptr id off L hL⟩
 ·rename_i n cs hg;cases hp;rw [hg] at hr;obtain ⟨k,o',f,e,hl,hcell,h1,h⟩:=hr.a6;exact ⟨a.eval x,by simp only [execOp,hop,e]; rfl,λl=>by rw [e]; exact .fp n cs k o' f hl hcell h1 h⟩
 ·rename_i f caps hg;cases hp;rw [hg] at hr;obtain ⟨f',us,e,hr',hl,h⟩:=hr.bn;exact ⟨a.eval x,by simp only [execOp,hop,e]; rfl,λl=>by rw [e]; exact .fn f' f caps us hr' hl h⟩
 ·cases hp
end
end Go.Proofs.YtipklgbboecciaaGreat
