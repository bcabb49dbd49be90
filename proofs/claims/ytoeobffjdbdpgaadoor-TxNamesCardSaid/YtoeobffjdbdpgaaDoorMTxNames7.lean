/- Part 7 of the proof of TxNames: an abstract machine over plain values, its soundness, and the functions of the program on plain values. -/
import Derived.Test.YtoeobffjdbdpgaaDoorMTxNames6
namespace Go.Proofs.YtoeobffjdbdpgaaDoor
section
def hi0 (n:Nat):Nat:=n
def hi1 (n:Nat):Nat:=hi0 n
def hi2 (n:Nat):Nat:=hi1 n
def hi3 (n:Nat):Nat:=hi2 n
def hi4 (n:Nat):Nat:=hi3 n
def hi5 (n:Nat):Nat:=hi4 n
def hi6 (n:Nat):Nat:=hi5 n
def hi7 (n:Nat):Nat:=hi6 n
def hi8 (n:Nat):Nat:=hi7 n
def hi9 (n:Nat):Nat:=hi8 n
def zG2 (n:Nat):Nat:=hi9 n
def zGP (n:Nat):Nat:=zG2 n
def zGO (n:Nat):Nat:=zGP n
def zG3 (n:Nat):Nat:=zGO n
def zGZ (n:Nat):Nat:=zG3 n
def zG0 (n:Nat):Nat:=zGZ n
def zGN (n:Nat):Nat:=zG0 n
def zG4 (n:Nat):Nat:=zGN n
def zGR (n:Nat):Nat:=zG4 n
def zG1 (n:Nat):Nat:=zGR n
def zGW (n:Nat):Nat:=zG1 n
def zGY (n:Nat):Nat:=zGW n
def zGU (n:Nat):Nat:=zGY n
def zGQ (n:Nat):Nat:=zGU n
def zC0 (n:Nat):Nat:=zGQ n
section
variable {β:Type}
def chk (p:Prop) [inst:Decidable p] (k:Option β):Option β:=(fun (_:Nat→Nat)=>match inst with
 | .isTrue _=>k
 | .isFalse _=>none) hi0
theorem zmg (p:Prop) [inst:Decidable p] (k:Option β):chk p k=if p then k else none:=by
 cases inst <;> rfl
def ifb (t:Bool) (a b:Option β):Option β:=(fun (_:Nat→Nat)=>match t with
 | true=>a
 | false=>b) hi0
def lt {α:Type} (a:α) (k:α→Option β):Option β:=k a
def aI (kd:IntKind) (v:V) (k:Int→Option β):Option β:=match v with
 | .sc (.int kd' n)=>chk (kd'=kd) (k n)
 | _=>none
def zqN (v:V) (k:Int→Option β):Option β:=(fun (_:Nat→Nat)=>match v with
 | .sc (.int _ n)=>k n
 | _=>none) hi0
def aB (v:V) (k:Bool→Option β):Option β:=(fun (_:Nat→Nat)=>match v with
 | .sc (.bool b)=>k b
 | _=>none) hi0
def aS (v:V) (k:ByteArray→Option β):Option β:=(fun (_:Nat→Nat)=>match v with
 | .sc (.string s)=>k s
 | _=>none) hi0
def aL (sz:Nat) (v:V) (k:List (List V)→Option β):Option β:=match v with
 | .sl sz' es=>chk (sz'=sz) (k es)
 | _=>none
def aLd (sz:Nat) (v:V) (k:List (List V)→Option β):Option β:=match v with
 | .sl sz' es=>chk (sz'=sz) (k es)
 | .gs sz' es=>chk (sz'=sz) (k es)
 | _=>none
def aA (n:Nat) (v:V) (k:List V→Option β):Option β:=match v with
 | .agg cs=>chk (cs.length=n) (k cs)
 | _=>none
def aG (v:V) (k:List V→Option β):Option β:=(fun (_:Nat→Nat)=>match v with
 | .agg cs=>k cs
 | _=>none) hi0
def aGs (sz:Nat) (v:V) (k:List (List V)→Option β):Option β:=match v with
 | .gs sz' es=>chk (sz'=sz) (k es)
 | _=>none
def aP (id off:Nat) (v:V) (k:Option β):Option β:=match v with
 | .ptr i o=>chk (i=id∧o=off) (k)
 | _=>none
def aM (id:Nat) (v:V) (k:Option β):Option β:=match v with
 | .mp i=>chk (i=id) (k)
 | _=>none
def aO (id sz:Nat) (v:V) (k:Nat→Nat→Option β):Option β:=match v with
 | .own i o l s=>chk (i=id∧s=sz) (k o l)
 | _=>none
def aO0 (id sz:Nat) (v:V) (k:Nat→Option β):Option β:=match v with
 | .own i o l s=>chk (i=id∧s=sz∧o=0) (k l)
 | _=>none
def aFp (n:Nat) (v:V) (k:List V→Option β):Option β:=match v with
 | .fp m cs=>chk (m=n) (k cs)
 | _=>none
def aV (u:Value) (v:V) (k:Option β):Option β:=match u,v with
 | .nilFunc,.sc .nilFunc=>k
 | .pointer none,.sc (.pointer none)=>k
 | .map none,.sc (.map none)=>k
 | _,_=>none
def zB2:List (Nat × Nat)→List V→Bool
 | [],[]=>true
 | (i,o)::r,.ptr a b::s=>Nat.beq i a && (Nat.beq o b && zB2 r s)
 | _,_=>false
def aF (f:Nat) (caps:List (Nat × Nat)) (v:V) (k:Option β):Option β:=match v with
 | .fn g cs=>match Nat.beq f g && zB2 caps cs with
  | true=>k
  | false=>none
 | _=>none
def zeN (cs:List V) (off:Nat) (k:V→Option β):Option β:=match cs[off]? with
 | some v=>k v
 | none=>none
def idx (es:List (List V)) (j:Int) (k:List V→Option β):Option β:=chk (0≤j) (match es[j.toNat]? with
 | some c=>k c
 | none=>none)
def eqC (n:Nat) (a b:List V) (k:Bool→Option β):Option β:=chk (a.length=n∧b.length=n) (match zdh a b with
 | some r=>k r
 | none=>none)
def zER (es:List (List V)) (k:ByteArray→Option β):Option β:=match zgn es with
 | some l=>k ⟨l.toArray⟩
 | none=>none
def zF8 (es fs:List (List V)) (k:Int→Option β):Option β:=match zgn es with
 | some a=>match zgn fs with
  | some b=>k (Lib.compareBytes a b)
  | none=>none
 | none=>none
def zrV (cs:List V) (k:List V→Option β):Option β:=match cs.mapM V.plain with
 | some vs=>k vs
 | none=>none
def zC9 (cs:List V) (k:List V→Option β):Option β:=match cs.mapM V.refd with
 | some vs=>k vs
 | none=>none
def mAt (kd:Nat) (key:V) (es:List (V × V)) (k:Option V→Option β):Option β:=match zjo kd key with
 | true=>match zsa key es with
  | some r=>k r
  | none=>none
 | false=>none
def zEL (kd:Nat) (key val:V) (es:List (V × V)) (k:List (V × V)→Option β):Option β:=match zjo kd key with
 | true=>match zAj key val es with
  | some r=>k r
  | none=>none
 | false=>none
def cI (kd:IntKind) (cs:List V) (off:Nat) (k:Int→Option β):Option β:=zeN cs off (fun v=>aI kd v k)
def cB (cs:List V) (off:Nat) (k:Bool→Option β):Option β:=zeN cs off (fun v=>aB v k)
def cS (cs:List V) (off:Nat) (k:ByteArray→Option β):Option β:=zeN cs off (fun v=>aS v k)
def cL (sz:Nat) (cs:List V) (off:Nat) (k:List (List V)→Option β):Option β:=zeN cs off (fun v=>aL sz v k)
def cLd (sz:Nat) (cs:List V) (off:Nat) (k:List (List V)→Option β):Option β:=zeN cs off (fun v=>aLd sz v k)
end
def zf0 (k:IntKind) (a b:Int):Int:=k.wrap (BitVec.ofInt k.bits a &&& BitVec.ofInt k.bits b).toNat
def ior (k:IntKind) (a b:Int):Int:=k.wrap (BitVec.ofInt k.bits a ||| BitVec.ofInt k.bits b).toNat
def zbH (k:IntKind) (a b:Int):Int:=k.wrap (BitVec.ofInt k.bits a ^^^ BitVec.ofInt k.bits b).toNat
def zG6 (k:IntKind) (a b:Int):Int:=k.wrap (BitVec.ofInt k.bits a &&& ~~~ BitVec.ofInt k.bits b).toNat
def zE2 (k:IntKind) (n:Int):Int:=k.wrap (BitVec.ofInt k.bits (if k.signed then -1 else k.max) ^^^ BitVec.ofInt k.bits n).toNat
def zhC (k:IntKind) (a b:Int):Int:=k.wrap (a * 2 ^ (min b.toNat k.bits))
def zcZ (k:IntKind) (a b:Int):Int:=a.fdiv (2 ^ (min b.toNat k.bits))
def zG8 (a b:Int):Int:=if b > a then b else a
def zG9 (a b:Int):Int:=if b < a then b else a
inductive Sh where
 | any
 | int (k:IntKind)
 | bool
 | str
 | sl (sz:Nat)
 | row (l:List Sh)
def asc {β:Type} (s:Sh) (v:V) (k:V→Option β):Option β:=match s with
 | .any=>k v
 | .int kd=>aI kd v (fun n=>k (.sc (.int kd n)))
 | .bool=>aB v (fun b=>k (.sc (.bool b)))
 | .str=>aS v (fun t=>k (.sc (.string t)))
 | .sl sz=>aL sz v (fun es=>k (.sl sz es))
 | .row _=>none
def zGm {β:Type} (s:Sh) (v:V) (k:V→Option β):Option β:=match s with
 | .any=>k v.dem
 | .int kd=>aI kd v (fun n=>k (.sc (.int kd n)))
 | .bool=>aB v (fun b=>k (.sc (.bool b)))
 | .str=>aS v (fun t=>k (.sc (.string t)))
 | .sl sz=>aLd sz v (fun es=>k (.sl sz es))
 | .row _=>none
def zz5 {β:Type}:List Sh→Nat→List V→(List V→Option β)→Option β
 | [],_,_,k=>k []
 | s::ss,i,cs,k=>zeN cs i fun v=>asc s v fun v=>zz5 ss (i+1) cs fun r=>k (v::r)
def zu5 {β:Type} (s:Sh) (cs:List V) (k:List V→Option β):Option β:=match s with
 | .row ss=>chk (cs.length=ss.length) (zz5 ss 0 cs k)
 | _=>k cs
abbrev CBC:=∀ (β:Type),Nat→List V→Bor→(V→Bor→Option β)→Option β
section
variable {β:Type}
abbrev zkJ (o:Option St) (κ:St→Option β):Option β:=match o with
 | some σ=>κ σ
 | none=>none
def ltV (v:Value) (k:Value→Option β):Option β:=match v with
 | .int kd n=>lt n fun n=>k (.int kd n)
 | v=>k v
def zFk:V→V
 | .gs sz _=>.gs sz []
 | .sl sz _=>.sl sz []
 | v=>v
def zCN (t:Bool) (a b:V) (k:V→Option β):Option β:=match a,b with
 | .sc (.bool x),.sc (.bool y)=>k (.sc (.bool (cond t x y)))
 | .sc (.int kd x),.sc (.int kd' y)=>chk (kd=kd') (lt (cond t x y) (fun n=>k (.sc (.int kd n))))
 | a,b=>ifb t (k a) (k b)
def zxR (σ:St):List (Nat × Nat × Src)→List V→(List V→Option β)→Option β
 | [],cs,k=>k cs
 | (off,n,x)::rest,cs,k=>match (x.get σ).plain with
  | some v=>chk (v.cells.length=n∧off+n≤cs.length) (zxR σ rest (zr cs off v.cells) k)
  | none=>none
def zuy (sh:Nat→Sh) (σ:St):List (Nat × Nat × Src)→List V→(List V→Option β)→Option β
 | [],cs,k=>k cs
 | (off,n,x)::rest,cs,k=>match x.get σ with
  | .agg us=>zu5 (sh ((x.slot).getD 0)) us fun us=>chk (us.length=n∧off+n≤cs.length) (zuy sh σ rest (zr cs off us) k)
  | v=>match v.refd with
   | some v=>chk (v.cells.length=n∧off+n≤cs.length) (zuy sh σ rest (zr cs off v.cells) k)
   | none=>none
def zFf (op:BinOp) (x y:Value) (k:Value→Option β):Option β :=
 match op,x,y with
 | .shl,.int kd a,.int _ b=>chk (0≤b) (k (.int kd (kd.wrap (a * 2 ^ (min b.toNat kd.bits)))))
 | .shr,.int kd a,.int _ b=>chk (0≤b) (k (.int kd (a.fdiv (2 ^ (min b.toNat kd.bits)))))
 | .quo,.int kd a,.int kd' b=>chk (kd=kd') (chk (b≠0) (k (.int kd (kd.wrap (a.tdiv b)))))
 | .rem,.int kd a,.int kd' b=>chk (kd=kd') (chk (b≠0) (k (.int kd (a.tmod b))))
 | op,x,y=>match zoK op x y with
  | some r=>k r
  | none=>none
def zuo (σ:St) (x:Option Src) (dflt:Nat) (most:Nat) (k:Nat→Option β):Option β :=
 match x with
 | none=>k dflt
 | some s=>zqN (s.get σ) fun i=>chk (0≤i∧i≤most) (k i.toNat)
def zu1 (σ:St) (len:Nat) (lo hi mx:Option Src) (k:Nat→Nat→Nat→Option β):Option β :=
 zuo σ mx len len fun m=>zuo σ hi len m fun h=>zuo σ lo 0 h fun l=>k l h m
def zB9 (l h m id off sz:Nat) (k:V→Option β):Option β:=ifb (decide (m=l)) (k (.gs sz [])) (k (.own id (off+l * sz) (h - l) sz))
def zoG (b:List B) (v:V) (k:V→Option β):Option β:=match zaR b v with
 | some u=>k u
 | none=>none
def zxs (sh:Sh) (cs:List V) (off:Nat) (k:V→Option β):Option β:=zeN cs off (fun v=>asc sh v k)
def zDF (sh:Sh) (cs:List V) (off:Nat) (k:V→Option β):Option β:=zeN cs off (fun v=>zGm sh v k)
def zzX (nb:Nat) (σ:St) (dst:Option Nat) (pin:Bool) (v:V) (κ:St→Option β):Option β:=match v with
 | .fr sz es=>match pin with
  | true=>zkJ (σ.putG nb dst true sz es) κ
  | false=>κ (σ.put dst (.gs sz es))
 | v=>zkJ (σ.putR nb dst pin v) κ
def zx2 (b:List B) (id:Nat) (κ:List B→Option β):Option β:=match b[id]? with
 | some (.live true cs)=>ifb cs.isEmpty (κ b) (κ (b.set id (.fz cs)))
 | _=>κ b
def zo2 (σ:St):List (Src × Nat)→List B→(List B→Option β)→Option β
 | [],b,κ=>κ b
 | s::rest,b,κ=>match decide (2≤s.2) with
  | true=>zo2 σ rest b κ
  | false=>match xZ (s.1.get σ) with
   | some id=>zx2 b id fun b=>zo2 σ rest b κ
   | none=>zo2 σ rest b κ
def ztT (nb:Nat):List Nat→St→(St→Option β)→Option β
 | [],σ,κ=>κ σ
 | d::fz,σ,κ=>match σ.b[nb+d]? with
  | some (.live true cs)=>chk (cs.length≠0) (ztT nb fz { σ with b:=σ.b.set (nb+d) (.fz cs) } κ)
  | _=>ztT nb fz σ κ
def zvc (cb:CBC) (nb:Nat) (σ:St) (dst:Option Nat) (pin:Bool) (f:Nat) (args:List V) (srcs:List (Src × Nat)) (xs:List Nat) (κ:St→Option β):Option β :=
 zo2 σ srcs σ.b fun b1 =>
 let σ1:St:={ σ with b:=b1 }
 let ids:=zZ σ1.b args
 match zdR σ1.b ids ids with
 | none=>none
 | some bor=>cb β f (args.map (zcW (xK ids))) bor fun r bor' =>
  let ids':=ids++(xs.map (nb+·)).take (bor'.length - ids.length)
  chk ((bor'.take ids.length).map B.len=bor.map B.len)
   (match decide (bor'.length=ids'.length) && (args.all (fun a=>(yG a).all ids.contains) && (zxZ r && ((zh8 r).all (fun k=>decide (k < ids'.length)) && (bor'.all (B.lend (List.range ids'.length)) && (zhm (bor'.take ids.length) bor && ((bor'.drop ids.length).all B.isRow && zjj σ1.b nb xs)))))) with
   | true=>zzX nb { σ1 with b:=y4 (fun k=>ids'.getD k 0) ids' bor' σ1.b } dst pin (zl8 (fun k=>ids'.getD k 0) r) κ
   | false=>none)
def zbM (sh:Nat→Sh) (cb:CBC) (nb:Nat) (σ:St) (dst:Option Nat) (pin:Bool) (k:K) (κ:St→Option β):Option β :=
 match k with
 | .pick c a b=>aB (c.get σ) fun t=>zCN t (a.get σ).dem (b.get σ).dem fun v=>κ (σ.put dst v)
 | .build zero parts=>zxR σ parts zero fun cs=>κ (σ.put dst (.agg cs))
 | .buildSt zero parts=>zuy sh σ parts zero fun cs=>κ (σ.put dst (.st cs))
 | .nilT neg x=>match (x.get σ).dem with
  | .sl _ es=>match x with
   | .tmp t=>ifb es.isEmpty (lt { σ with t:=σ.t.set t (zFk (x.get σ)) } fun σ=>κ (σ.put dst .ub)) (κ (σ.put dst (.sc (.bool neg))))
   | .const _=>none
  | _=>none
 | .un op x=>match x.get σ with
  | .sc a=>match zCT op a with
   | some r=>ltV r fun r=>κ (σ.put dst (.sc r))
   | none=>none
  | _=>none
 | .conv k x=>zqN (x.get σ) fun n=>lt (k.wrap n) fun n=>κ (σ.put dst (.sc (.int k n)))
 | .mm isMax x y=>match x.get σ,y.get σ with
  | .sc (.int k a),.sc (.int _ b)=>lt (if isMax then (if b > a then b else a) else (if b < a then b else a)) fun n=>κ (σ.put dst (.sc (.int k n)))
  | _,_=>none
 | .copy sz d s=>match d.get σ with
  | .own id off len sz1=>zoG σ.b (s.get σ) fun u=>match u with
   | .sl sz2 es=>match σ.b[id]? with
    | some (.live true cs)=>chk (sz1=sz∧sz2=sz) (lt (zr cs off (es.take (min es.length len)).flatten) fun cs'=>κ ((σ.setB id (.live true cs')).put dst (.sc (.int .i64 ((min es.length len:Nat):Int)))))
    | _=>none
   | _=>none
  | _=>none
 | .box p x=>match x.get σ with
  | .st cs=>match p with
   | true=>none
   | false=>zkJ (σ.newB nb dst (.live false cs) (fun id=>.ptr id 0)) κ
  | v=>match v.plain with
   | some v=>match p with
    | true=>zkJ (σ.newB nb dst (.live true v.cells) (fun id=>.ptr id 0)) κ
    | false=>zu5 (sh (dst.getD 0)) v.cells fun cs=>zkJ (σ.newB nb dst (.live false cs) (fun id=>.ptr id 0)) κ
   | none=>none
 | .buildSlice sz n zero parts=>zxR σ parts (List.replicate n zero).flatten fun cs=>match decide (n=0∧pin=true) with
  | true=>κ (σ.put dst (.fr sz []))
  | false=>zkJ (σ.putG nb dst pin sz (yp sz n cs)) κ
 | .bin op x y=>match x.get σ,y.get σ with
  | .sc a,.sc b=>zFf op a b fun r=>ltV r fun r=>κ (σ.put dst (.sc r))
  | _,_=>none
 | .eqAgg neg n x y=>match x.get σ,y.get σ with
  | .agg a,.agg b=>eqC n a b fun r=>κ (σ.put dst (.sc (.bool (if neg then !r else r))))
  | _,_=>none
 | .toStr x=>zoG σ.b (x.get σ) fun v=>match v with
  | .sl 1 es=>zER es fun s=>κ (σ.put dst (.sc (.string s)))
  | _=>none
 | .cmpB x y=>zoG σ.b (x.get σ) fun u=>zoG σ.b (y.get σ) fun v=>match u,v with
  | .sl 1 es,.sl 1 fs=>zF8 es fs fun n=>lt n fun n=>κ (σ.put dst (.sc (.int .i64 n)))
  | _,_=>none
 | .makeSlice sz bytes zero l c=>zqN (l.get σ) fun l=>zqN (c.get σ) fun c =>
  match pin with
  | true=>chk (0≤l∧l≤c∧c.toNat * bytes≤yl∧c≤yl) (zkJ (σ.newB nb dst (.live true (List.replicate c.toNat zero).flatten) (fun id=>.own id 0 l.toNat sz)) κ)
  | false=>chk (0≤l∧l≤c∧c.toNat * bytes≤yl∧c≤yl) (zkJ (σ.putG nb dst false sz (List.replicate l.toNat zero)) κ)
 | .sliceA n sz x lo hi mx=>zu1 σ n lo hi mx fun l h m =>
  match x.get σ with
  | .ptr id off=>match σ.b[id]? with
   | some (.live _ cs)=>chk (off+n * sz≤cs.length) (zB9 l h m id off sz fun v=>κ (σ.put dst v))
   | some (.fz cs)=>chk (off+n * sz≤cs.length) (zB9 l h m id off sz fun v=>κ (σ.put dst v))
   | _=>none
  | .fp q cs=>chk (n * sz≤q) (κ (σ.put dst (.sl sz (yp sz (h - l) (cs.drop (l * sz))))))
  | _=>none
 | .sliceS sz x lo hi mx=>match (x.get σ).dem with
  | .sl sz' es=>zu1 σ es.length lo hi mx fun l h m =>
   chk (sz=sz') (match mx with
    | none=>κ (σ.put dst (.sl sz ((es.drop l).take (h - l))))
    | some _=>ifb (decide (m=l)) (κ (σ.put dst (.fr sz []))) (κ (σ.put dst (.sl sz ((es.drop l).take (h - l))))))
  | .own id off len sz'=>zu1 σ len lo hi mx fun l h m=>chk (sz=sz') (match mx with
    | none=>κ (σ.put dst (.own id (off+l * sz) (h - l) sz))
    | some _=>ifb (decide (m=l)) (κ (σ.put dst (.fr sz []))) (κ (σ.put dst .junk)))
  | _=>none
 | .field agg o n x=>match x.get σ with
  | .agg cs=>match agg with
   | true=>κ (σ.put dst (.agg ((cs.drop o).take n)))
   | false=>zxs (sh (dst.getD 0)) cs o fun v=>κ (σ.put dst v)
  | .st cs=>match agg with
   | true=>none
   | false=>match cs[o]? with
    | some v=>κ (σ.put dst v)
    | none=>none
  | _=>none
 | .indexAddrA len sz x i=>zqN (i.get σ) fun j=>chk (0≤j∧j < len) (match x.get σ with
   | .ptr id off=>κ (σ.put dst (.ptr id (off+j.toNat * sz)))
   | .fp n cs=>chk (len * sz≤n) (κ (σ.put dst (.fp (n - j.toNat * sz) (cs.drop (j.toNat * sz)))))
   | _=>none)
 | .indexAddrS sz x i=>zqN (i.get σ) fun j=>match (x.get σ).dem with
   | .sl sz' es=>chk (sz=sz') (idx es j fun c=>κ (σ.put dst (.fp sz c)))
   | .own id off len sz'=>chk (sz=sz') (chk (0≤j∧j < len) (κ (σ.put dst (.ptr id (off+j.toNat * sz)))))
   | _=>none
 | .arrP n sz x=>match (x.get σ).dem with
   | .sl sz' es=>chk (sz=sz') (chk (0 < n) (chk (n≤es.length) (κ (σ.put dst (.fp (n * sz) (es.take n).flatten)))))
   | .own id off len sz'=>chk (sz=sz') (chk (0 < n) (chk (n≤len) (κ (σ.put dst (.ptr id off)))))
   | _=>none
 | .indexA agg len sz x i=>zqN (i.get σ) fun j=>chk (0≤j∧j < len) (match x.get σ with
   | .agg cs=>match agg with
    | true=>κ (σ.put dst (.agg ((cs.drop (j.toNat * sz)).take sz)))
    | false=>zxs (sh (dst.getD 0)) cs (j.toNat * sz) fun v=>κ (σ.put dst v)
   | _=>none)
 | .load agg n a take=>match a.get σ with
  | .ptr id off=>match σ.b[id]? with
   | some (.live p cs)=>match agg with
    | true=>chk (off+n≤cs.length) (match p with
     | true=>κ (σ.put dst (.agg ((cs.drop off).take n)))
     | false=>match take with
      | true=>zC9 ((cs.drop off).take n) fun vs=>κ (σ.put dst (.st vs))
      | false=>zrV ((cs.drop off).take n) fun vs=>κ (σ.put dst (.agg vs)))
    | false=>match take with
     | true=>match p with
      | true=>none
      | false=>zeN cs off fun v=>κ ((σ.setB id (.live p (cs.set off v.dem))).put dst v.tk)
     | false=>zDF (sh (dst.getD 0)) cs off fun v=>κ (σ.put dst v)
   | some (.fz cs)=>match agg with
    | true=>chk (off+n≤cs.length) (κ (σ.put dst (.agg ((cs.drop off).take n))))
    | false=>zxs (sh (dst.getD 0)) cs off fun v=>κ (σ.put dst v)
   | _=>none
  | .fp m cs=>match agg with
   | true=>chk (n≤m) (κ (σ.put dst (.agg (cs.take n))))
   | false=>zxs (sh (dst.getD 0)) cs 0 fun v=>κ (σ.put dst v)
  | _=>none
 | .store n a x=>match dst with
  | some _=>none
  | none=>match a.get σ with
   | .ptr id off=>match σ.b[id]? with
    | some (.live true cs)=>match (x.get σ).plain with
     | some v=>chk (v.cells.length=n∧off+n≤cs.length) (lt (zr cs off v.cells) fun cs'=>κ (σ.setB id (.live true cs')))
     | none=>none
    | some (.live false cs)=>match x.get σ with
     | .agg us=>zu5 (sh ((x.slot).getD 0)) us fun us=>chk (us.length=n∧off+n≤cs.length) (κ (σ.setB id (.live false (zr cs off us))))
     | .st us=>chk (us.length=n∧off+n≤cs.length) (κ (σ.setB id (.live false (zr cs off us))))
     | .tup _=>none
     | .bx _ _=>none
     | .fr _ _=>none
     | .junk=>none
     | v=>chk (n=1∧off < cs.length) (κ ((σ.demote x).setB id (.live false (cs.set off v))))
    | _=>none
   | _=>none
 | .append sz bytes s x=>match s.get σ with
  | .gs sz1 es=>zoG σ.b (x.get σ) fun u=>match u with
   | .sl sz2 es2=>chk (sz1=sz∧sz2=sz) (chk ((es.length+es2.length) * bytes≤yl∧es.length+es2.length≤yl) (match pin with
    | true=>match s,es with
     | .const _,[]=>zkJ (σ.putG nb dst true sz es2) κ
     | _,_=>none
    | false=>lt (es++es2) fun es'=>κ ((σ.demote s).put dst (.gs sz es'))))
   | _=>none
  | .fr sz1 []=>zoG σ.b (x.get σ) fun u=>match u with
   | .sl sz2 es2=>chk (sz1=sz∧sz2=sz) (chk ((0+es2.length) * bytes≤yl∧0+es2.length≤yl) (zkJ ((σ.demote s).putG nb dst pin sz es2) κ))
   | _=>none
  | .own id off len sz1=>zoG σ.b (x.get σ) fun u=>match u with
   | .sl sz2 es2=>match σ.b[id]? with
    | some (.live true cs)=>chk (sz1=sz∧sz2=sz∧off=0) (chk ((len+es2.length) * bytes≤yl∧len+es2.length≤yl∧(len+es2.length≠0∨cs.length=0)) (lt (cs.take (len * sz)++es2.flatten) fun cs' =>
     zkJ ((σ.setB id (.dead cs.length)).newB nb dst (.live true cs') (fun id'=>.own id' 0 (len+es2.length) sz)) κ))
    | _=>none
   | _=>none
  | _=>none
 | .unpin x=>match pin with
  | true=>none
  | false=>match x.get σ with
   | .own id off len sz=>match σ.b[id]? with
    | some (.live true cs)=>chk (off=0∧len * sz≤cs.length∧cs.length≠0) (κ ((σ.setB id (.dead cs.length)).put dst (.gs sz (yp sz len cs))))
    | _=>none
   | .gs sz es=>κ ((σ.demote x).put dst (.gs sz es))
   | _=>none
 | .clear sz zero x=>match x.get σ with
  | .own id off len sz1=>match σ.b[id]? with
   | some (.live true cs)=>chk (sz1=sz) (lt (zr cs off (List.replicate len zero).flatten) fun cs'=>κ ((σ.setB id (.live true cs')).put dst (.tup [])))
   | _=>none
  | _=>none
 | .extract x i=>match x.get σ with
  | .tup vs=>match vs[i]?,x with
   | some v,.tmp t=>match vs.all zAB && decide (dst≠some t) with
    | true=>match v.isHeld with
     | true=>zzX nb { σ with t:=σ.t.set t (.tup (vs.set i .junk)) } dst pin v κ
     | false=>match pin with
      | true=>none
      | false=>κ (σ.put dst v.dem)
    | false=>none
   | _,_=>none
  | _=>none
 | .appendZ sz bytes zero s x=>match s.get σ with
  | .gs sz1 es=>zqN (x.get σ) fun n=>chk (sz1=sz) (chk (0≤n∧(es.length+n.toNat) * bytes≤yl∧es.length+n.toNat≤yl) (match pin with
   | true=>none
   | false=>lt (es++List.replicate n.toNat zero) fun es'=>κ ((σ.demote s).put dst (.gs sz es'))))
  | _=>none
 | .mlook kd ok zero x y=>match x.get σ with
  | .mp id=>match σ.b[id]? with
   | some (.mp es)=>mAt kd (y.get σ) es fun r=>asc (sh (dst.getD 0)) (r.getD zero) fun v=>match ok with
    | true=>κ (σ.put dst (.tup [v,.sc (.bool r.isSome)]))
    | false=>κ (σ.put dst v)
   | _=>none
  | _=>none
 | .mput kd x y z=>match dst with
  | some _=>none
  | none=>match x.get σ with
   | .mp id=>match σ.b[id]? with
    | some (.mp es)=>match (z.get σ).plain with
     | some v=>zEL kd (y.get σ) v es fun es'=>κ (σ.setB id (.mp es'))
     | none=>none
    | _=>none
   | _=>none
 | .call f args xs=>match args.mapM (zaY σ) with
  | some vs=>zvc cb nb σ dst pin f vs args xs κ
  | none=>none
 | .callv f args xs=>match f.get σ with
  | .fn g caps=>match args.mapM (zaY σ) with
   | some vs=>zvc cb nb σ dst pin g (vs++caps) args xs κ
   | none=>none
  | _=>none
 | k=>zkJ (zh (fun _ _ _=>none) nb σ dst pin k) κ
def zvg (sh:Nat→Sh) (cb:CBC) (nb:Nat) (σ:St) (o:COp) (κ:St→St→Option β):Option β :=
 match o.guard with
 | none=>zbM sh cb nb σ o.dst o.pin o.k (κ σ)
 | some (j,want)=>match σ.t[j]? with
  | some (.sc (.bool b))=>match want with
   | true=>ifb b (lt { σ with t:=σ.t.set j (.sc (.bool true)) } fun σ=>zbM sh cb nb σ o.dst o.pin o.k (κ σ)) (lt { σ with t:=σ.t.set j (.sc (.bool false)) } fun σ=>κ σ (σ.put o.dst (.tup [])))
   | false=>ifb b (lt { σ with t:=σ.t.set j (.sc (.bool true)) } fun σ=>κ σ (σ.put o.dst (.tup []))) (lt { σ with t:=σ.t.set j (.sc (.bool false)) } fun σ=>zbM sh cb nb σ o.dst o.pin o.k (κ σ))
  | some (.tup [])=>κ σ (σ.put o.dst (.tup []))
  | _=>none
def zwe (sh:Nat→Sh) (cb:CBC) (nb:Nat):List COp→St→(St→Option β)→Option β
 | [],σ,κ=>κ σ
 | o::rest,σ,κ=>zvg sh cb nb σ o fun _ σ'=>zwe sh cb nb rest σ' κ
def zAQ (sh:Nat→Sh) (cb:CBC) (nb:Nat):List (COp × Fl)→St→(St→Option β)→Option β
 | [],σ,κ=>κ σ
 | (o,q)::rest,σ,κ=>zvg sh cb nb σ o fun σr σ'=>match zd0 nb σr o q σ' with
  | true=>zAQ sh cb nb rest σ' κ
  | false=>none
abbrev KT (β:Type):=Ex→St→Option β
def zy (rb:St→KT β→Option β) (K:KT β):KT β:=(fun (_:Nat→Nat)=>fun ex σ=>match ex with
 | .normal=>rb σ K
 | .exit j=>K (.exit j) σ
 | .ret=>K .ret σ) zC0
def yn (id:Nat) (K:KT β):KT β:=(fun (_:Nat→Nat)=>fun ex σ=>match ex with
 | .normal=>K .normal σ
 | .exit j=>match Nat.beq j id with
  | true=>K .normal σ
  | false=>K (.exit j) σ
 | .ret=>K .ret σ) zC0
def yN (norm:St→St) (X:St→Option β) (K:KT β):KT β:=(fun (_:Nat→Nat)=>fun ex σ=>match ex with
 | .normal=>X (norm σ)
 | .exit j=>K (.exit j) σ
 | .ret=>K .ret σ) zC0
def xq (body:St→KT β→Option β) (norm:St→St):Nat→St→KT β→Option β
 | 0,_,_=>none
 | n+1,σ,K=>body σ (yN norm (fun σ=>xq body norm n σ K) K)
def onR (o:Option (Ex × St)) (K:KT β):Option β:=(fun (_:Nat→Nat)=>match o with
 | some (ex,σ)=>K ex σ
 | none=>none) zC0
def xf (sh:Nat→Sh) (cb:CBC) (nb:Nat) (L:Nat):CC→St→KT β→Option β
 | .skip,σ,K=>K .normal σ
 | .reg ops,σ,K=>zwe sh cb nb ops σ (K .normal)
 | .dreg fz ops,σ,K=>ztT nb fz σ fun σ=>zAQ sh cb nb ops σ (K .normal)
 | .seq a b,σ,K=>xf sh cb nb L a σ (zy (xf sh cb nb L b) K)
 | .fork p c a b,σ,K=>xf sh cb nb L p σ (zy (fun σ K=>match c.get σ with
  | .ub=>match zzS (run (fun _ _ _=>none) nb L a σ) (run (fun _ _ _=>none) nb L b σ) with
   | true=>onR (run (fun _ _ _=>none) nb L b σ) K
   | false=>none
  | v=>aB v fun t=>ifb t (xf sh cb nb L a σ (zy (xf sh cb nb L b) K)) (xf sh cb nb L b σ K)) K)
 | .cond c a b,σ,K=>match c.get σ with
  | .ub=>match zxB (run (fun _ _ _=>none) nb L a σ) (run (fun _ _ _=>none) nb L b σ) with
   | true=>onR (run (fun _ _ _=>none) nb L b σ) K
   | false=>none
  | v=>aB v fun t=>ifb t (xf sh cb nb L a σ K) (xf sh cb nb L b σ K)
 | .block id a,σ,K=>xf sh cb nb L a σ (yn id K)
 | .loop kt kb a,σ,K=>xq (xf sh cb nb L a) (zS nb kt kb) L (zS nb kt kb σ) K
 | .mask kt kb,σ,K=>K .normal (zS nb kt kb σ)
 | .exit id,σ,K=>K (.exit id) σ
 | .ret,σ,K=>K .ret σ
def zo8 (nb:Nat) (σ:St) (r:RV) (k:V→Option β):Option β:=match r with
 | .cellS _ _ _=>none
 | .tmp t=>match σ.t.getD t .junk with
  | .own id off len sz=>match decide (nb≤id) with
   | true=>match σ.b[id]? with
    | some (.live true cs)=>match decide (off=0∧0 < sz) with
     | true=>chk (len≠0∨cs.length=0) (k (.fr sz (yp sz len cs)))
     | false=>none
    | _=>none
   | false=>k (.own id off len sz)
  | .ptr id off=>match σ.b[id]? with
   | some (.live p cs)=>match decide (off=0∧nb≤id) with
    | true=>chk (cs.length≠0) (match p with
     | true=>k (.bx p cs)
     | false=>zrV cs fun cs=>k (.bx false cs))
    | false=>none
   | _=>none
  | _=>match z9 nb σ (.tmp t) with
   | some v=>k v
   | none=>none
 | .tmpP t=>match σ.t.getD t .junk with
  | .own id off len sz=>match decide (nb≤id∧off=0∧0 < sz) with
   | true=>match σ.b[id]? with
    | some (.live true cs)=>k (.gs sz (yp sz len cs))
    | _=>none
   | false=>none
  | _=>match z9 nb σ (.tmpP t) with
   | some v=>k v
   | none=>none
 | .cell t agg n=>match σ.t.getD t .junk with
  | .ptr id off=>match σ.b[id]? with
   | some (.live p cs)=>match agg with
    | true=>chk (off=0∧cs.length=n∧n≠0) (match p with
     | true=>k (.agg cs)
     | false=>zrV cs fun cs=>k (.agg cs))
    | false=>match decide (n=1∧off=0) with
     | true=>zeN cs 0 fun v=>match v.plain with
      | some v=>k v
      | none=>none
     | false=>none
   | _=>none
  | _=>none
def zwx (nb:Nat) (σ:St):List RV→(List V→Option β)→Option β
 | [],k=>k []
 | r::rs,k=>zo8 nb σ r fun v=>zwx nb σ rs fun vs=>k (v::vs)
def zsY (nb:Nat) (σ:St) (rs:List RV) (k:V→Option β):Option β :=
 match zj2 rs && zeH (zhq nb σ rs) with
 | true=>match rs with
  | [r]=>zo8 nb σ r k
  | rs=>zwx nb σ rs fun vs=>k (.tup vs)
 | false=>none
def zuT (b:List B) (nb:Nat) (ids:List Nat):List Nat→(Bor→Option β)→Option β
 | [],k=>k []
 | id::rest,k=>match b[id]? with
  | some (.live p cs)=>match p with
   | true=>zuT b nb ids rest fun l=>k (.live true cs::l)
   | false=>match decide (id < nb) with
    | true=>chk (cs.all (zbJ ids)=true) (zuT b nb ids rest fun l=>k (.live false (cs.map (zcW (xK ids)))::l))
    | false=>none
  | some (.mp es)=>match decide (id < nb) with
   | true=>zuT b nb ids rest fun l=>k (.mp es::l)
   | false=>none
  | some (.dead n)=>match decide (id < nb) with
   | true=>zuT b nb ids rest fun l=>k (.dead n::l)
   | false=>none
  | _=>none
def yE (nb:Nat) (rs:List RV) (k:V→Bor→Option β):KT β:=fun ex σ=>match ex with
 | .exit _=>none
 | _=>match zih σ.t.length rs σ with
  | some (σ,rs)=>zsY nb σ rs fun r=>zuT σ.b nb (zd8 nb r) (zd8 nb r) fun b=>match zeH (zd8 nb r) with
   | true=>k (zl8 (xK (zd8 nb r)) r) b
   | false=>none
  | none=>none
def lc {α β:Type} (l:List α) (a:Option β) (b:α→List α→Option β):Option β:=match l with
 | []=>a
 | x::xs=>b x xs
def zys:CC→Bool
 | .fork _ _ _ _=>true
 | .seq a b=>zys a || zys b
 | _=>false
def zzV (sh:Nat→Sh) (cb:CBC) (L:Nat) (c:CF) (args:List V) (bor:Bor) (k:V→Bor→Option β):Option β :=
 xf sh cb bor.length L c.body (enter c.ntmps args bor) (yE bor.length c.res k)
def zt (sh:Nat→Sh) (cb:CBC) (L:Nat) (c:CF) (args:List V) (bor:Bor) (k:V→Bor→Option β):Option β :=
 match zys c.body,args with
 | true,.sl sz es::rest=>lc es (zzV sh cb L c (.sl sz []::rest) bor k) (fun x xs=>zzV sh cb L c (.sl sz (x::xs)::rest) bor k)
 | _,args=>zzV sh cb L c args bor k
end
def zDD (x:Nat):Nat→Nat→List Bool
 | 0,_=>[]
 | n+1,i=>x.testBit i::zDD x n (i+1)
def bl (x n:Nat):List Bool:=zDD x n 0
def xQ:List (Nat × Sh)→Nat→Sh
 | [],_=>.any
 | (m,s)::r,n=>match Nat.beq m n with
  | true=>s
  | false=>xQ r n
def zEM:V→Nat
 | .sc (.int _ _)=>1
 | .sc (.bool _)=>2
 | .sc _=>3
 | .agg _=>4
 | .tup _=>5
 | .sl _ _=>6
 | .gs _ _=>7
 | .own _ _ _ _=>8
 | .ptr _ _=>9
 | .fp _ _=>10
 | .fn f _=>100+f
 | .mp _=>12
 | .st _=>13
 | _=>11
def zGC:V→List Nat
 | .st cs=>13::cs.map zEM
 | v=>[zEM v]
def ztY:Bor→List Nat
 | []=>[]
 | .live true _::r=>20::ztY r
 | .live false cs::r=>21::(cs.map zEM++ztY r)
 | .mp _::r=>22::ztY r
 | _::r=>23::ztY r
def zD4:List Nat→List Nat→Bool
 | [],[]=>true
 | a::l,b::m=>Nat.beq a b && zD4 l m
 | _,_=>false
def zHa (g:Nat) (tags:List Nat) (d:∀ (β:Type),List V→Bor→(V→Bor→Option β)→Option β) (c:CBC):CBC:=fun β f args bor k=>match Nat.beq f g && zD4 tags (args.flatMap zGC++ztY bor) with
 | true=>d β args bor k
 | false=>c β f args bor k
def noC:CBC:=fun _ _ _ _ _=>none
def xy (g:Nat) (d:∀ (β:Type),List V→Bor→(V→Bor→Option β)→Option β) (c:CBC):CBC:=fun β f args bor k=>match Nat.beq f g with
 | true=>d β args bor k
 | false=>c β f args bor k
abbrev tq (n:Nat):Src:=.tmp n
abbrev oo (d:Nat) (k:K):COp:=⟨some d,false,none,k⟩
abbrev oz (k:K):COp:=⟨none,false,none,k⟩
abbrev KK (β:Type):=V→Bor→Option β
def rp:Nat→V→List V→List V
 | 0,_,l=>l
 | n+1,v,l=>v::rp n v l
def jn:Nat→List V→List V
 | 0,l=>l
 | n+1,l=>.junk::jn n l
def gn:Nat→List B→List B
 | 0,l=>l
 | n+1,l=>.gone::gn n l
end
section
set_option linter.unusedVariables false
set_option linter.unusedSimpArgs false
section
variable {β:Type} {r:β}
theorem zz {p:Prop} [Decidable p] {k:Option β} (h:chk p k=some r):p∧k=some r:=by
 rw [zmg] at h; split at h
 ·exact ⟨‹_›,h⟩
 ·cases h
theorem zhv {t:Bool} {a b:Option β} (h:ifb t a b=some r):(t=true∧a=some r)∨(t=false∧b=some r):=by
 cases t
 ·exact .inr ⟨rfl,h⟩
 ·exact .inl ⟨rfl,h⟩
theorem zbt {kd:IntKind} {v:V} {k:Int→Option β} (h:aI kd v k=some r):∃ n,v=.sc (.int kd n)∧k n=some r:=by
 unfold aI at h; simp only [zmg] at h; split at h
 ·split at h
  ·rename_i e; subst e; exact ⟨_,rfl,h⟩
  ·cases h
 ·cases h
theorem ziR {v:V} {k:Int→Option β} (h:zqN v k=some r):∃ kd n,v=.sc (.int kd n)∧k n=some r:=by
 unfold zqN at h; split at h
 ·exact ⟨_,_,rfl,h⟩
 ·cases h
theorem zlA {v:V} {k:Bool→Option β} (h:aB v k=some r):∃ b,v=.sc (.bool b)∧k b=some r:=by
 unfold aB at h; split at h
 ·exact ⟨_,rfl,h⟩
 ·cases h
theorem zDG {v:V} {k:ByteArray→Option β} (h:aS v k=some r):∃ s,v=.sc (.string s)∧k s=some r:=by
 unfold aS at h; split at h
 ·exact ⟨_,rfl,h⟩
 ·cases h
theorem za2 {sz:Nat} {v:V} {k:List (List V)→Option β} (h:aL sz v k=some r):∃ es,v=.sl sz es∧k es=some r:=by
 unfold aL at h; simp only [zmg] at h; split at h
 ·split at h
  ·rename_i e; subst e; exact ⟨_,rfl,h⟩
  ·cases h
 ·cases h
theorem zFL {sz:Nat} {v:V} {k:List (List V)→Option β} (h:aLd sz v k=some r):∃ es,v.dem=.sl sz es∧k es=some r:=by
 unfold aLd at h; simp only [zmg] at h; split at h
 ·split at h
  ·rename_i e; subst e; exact ⟨_,rfl,h⟩
  ·cases h
 ·split at h
  ·rename_i e; subst e; exact ⟨_,rfl,h⟩
  ·cases h
 ·cases h
theorem zaj {v:V} {k:List V→Option β} (h:aG v k=some r):∃ cs,v=.agg cs∧k cs=some r:=by
 unfold aG at h; split at h
 ·exact ⟨_,rfl,h⟩
 ·cases h
theorem zlP {cs:List V} {off:Nat} {k:V→Option β} (h:zeN cs off k=some r):∃ v,cs[off]?=some v∧k v=some r:=by
 unfold zeN at h; split at h
 ·exact ⟨_,‹_›,h⟩
 ·cases h
theorem zFm {es:List (List V)} {j:Int} {k:List V→Option β} (h:idx es j k=some r):0≤j∧∃ c,es[j.toNat]?=some c∧k c=some r:=by
 unfold idx at h; simp only [zmg] at h; split at h
 ·split at h
  ·exact ⟨‹_›,_,‹_›,h⟩
  ·cases h
 ·cases h
theorem zFM {n:Nat} {a b:List V} {k:Bool→Option β} (h:eqC n a b k=some r):(a.length=n∧b.length=n)∧∃ t,zdh a b=some t∧k t=some r:=by
 unfold eqC at h; simp only [zmg] at h; split at h
 ·split at h
  ·exact ⟨‹_›,_,‹_›,h⟩
  ·cases h
 ·cases h
theorem zFe {es:List (List V)} {k:ByteArray→Option β} (h:zER es k=some r):∃ l,zgn es=some l∧k ⟨l.toArray⟩=some r:=by
 unfold zER at h; split at h
 ·exact ⟨_,‹_›,h⟩
 ·cases h
theorem zq3 {cs:List V} {k:List V→Option β} (h:zrV cs k=some r):∃ vs,cs.mapM V.plain=some vs∧k vs=some r:=by
 unfold zrV at h; split at h
 ·exact ⟨_,‹_›,h⟩
 ·cases h
theorem zDz {cs:List V} {k:List V→Option β} (h:zC9 cs k=some r):∃ vs,cs.mapM V.refd=some vs∧k vs=some r:=by
 unfold zC9 at h
 split at h
 ·exact ⟨_,‹_›,h⟩
 ·cases h
theorem zdZ {o:Option St} {κ:St→Option β} (h:zkJ o κ=some r):∃ σ,o=some σ∧κ σ=some r:=by
 unfold zkJ at h; split at h
 ·exact ⟨_,rfl,h⟩
 ·cases h
theorem ziY {b:List B} {v:V} {k:V→Option β} (h:zoG b v k=some r):∃ u,zaR b v=some u∧k u=some r:=by
 unfold zoG at h; split at h
 ·exact ⟨_,‹_›,h⟩
 ·cases h
theorem zx5 {s:Sh} {v:V} {k:V→Option β} (h:asc s v k=some r):k v=some r:=by
 cases s with
 | any=>exact h
 | int kd=>obtain ⟨n,e,h'⟩:=zbt h; subst e; exact h'
 | bool=>obtain ⟨n,e,h'⟩:=zlA h; subst e; exact h'
 | str=>obtain ⟨n,e,h'⟩:=zDG h; subst e; exact h'
 | sl sz=>obtain ⟨n,e,h'⟩:=za2 h; subst e; exact h'
 | row l=>cases h
theorem zE3 {s:Sh} {v:V} {k:V→Option β} (h:zGm s v k=some r):k v.dem=some r:=by
 cases s with
 | any=>exact h
 | int kd=>obtain ⟨n,e,h'⟩:=zbt h; subst e; exact h'
 | bool=>obtain ⟨n,e,h'⟩:=zlA h; subst e; exact h'
 | str=>obtain ⟨n,e,h'⟩:=zDG h; subst e; exact h'
 | sl sz=>obtain ⟨n,e,h⟩:=zFL h; rw [e]; exact h
 | row l=>cases h
theorem zxw:∀ {ss:List Sh} {i:Nat} {cs:List V} {k:List V→Option β},zz5 ss i cs k=some r→i+ss.length=cs.length→k (cs.drop i)=some r
 | [],i,cs,k,h,hl=>by
  rw [List.drop_of_length_le (by simp at hl; omega)]
  exact h
 | s::ss,i,cs,k,h,hl=>by
  obtain ⟨v,e,h⟩:=zlP h
  have h:=zxw (zx5 h) (by simp at hl; omega)
  obtain ⟨hi,rfl⟩:=List.getElem?_eq_some_iff.1 e
  rw [List.drop_eq_getElem_cons hi]
  exact h
theorem zrp {s:Sh} {cs:List V} {k:List V→Option β} (h:zu5 s cs k=some r):k cs=some r:=by
 cases s with
 | row ss =>
  obtain ⟨hl,h⟩:=zz h
  have:=zxw h (by omega)
  simpa using this
 | _=>exact h
theorem zp6 {s:Sh} {cs:List V} {off:Nat} {k:V→Option β} (h:zxs s cs off k=some r):∃ v,cs[off]?=some v∧k v=some r:=by
 obtain ⟨v,e,h⟩:=zlP h; exact ⟨v,e,zx5 h⟩
theorem zCC {s:Sh} {cs:List V} {off:Nat} {k:V→Option β} (h:zDF s cs off k=some r):∃ v,cs[off]?=some v∧k v.dem=some r:=by
 obtain ⟨v,e,h⟩:=zlP h; exact ⟨v,e,zE3 h⟩
theorem zCn {v:Value} {k:Value→Option β} (h:ltV v k=some r):k v=some r:=by
 cases v <;> exact h
theorem zDk {t:Bool} {a b:V} {k:V→Option β} (h:zCN t a b k=some r):k (if t then a else b)=some r:=by
 unfold zCN at h; simp only [zmg] at h
 split at h
 ·cases t <;> exact h
 ·split at h
  ·rename_i e; subst e; cases t <;> exact h
  ·cases h
 ·rcases zhv h with ⟨rfl,h⟩ | ⟨rfl,h⟩ <;> exact h
theorem zuv {σ:St}:∀ {ps:List (Nat × Nat × Src)} {cs:List V} {k:List V→Option β},zxR σ ps cs k=some r→∃ cs',zbO σ ps cs=some cs'∧k cs'=some r
 | [],cs,k,h=>⟨cs,rfl,h⟩
 | (off,n,x)::ps,cs,k,h=>by
  unfold zxR at h
  split at h
  ·rename_i v hv
   obtain ⟨hc,h⟩:=zz h
   obtain ⟨cs',e,h⟩:=zuv h
   refine ⟨cs',?_,h⟩
   simp only [zbO,hv,Option.bind_eq_bind,Option.bind_some,hc,and_self,if_true]
   exact e
  ·cases h
theorem zs7 {sh:Nat→Sh} {σ:St}:∀ {ps:List (Nat × Nat × Src)} {cs:List V} {k:List V→Option β},zuy sh σ ps cs k=some r→∃ cs',zd2 σ ps cs=some cs'∧k cs'=some r
 | [],cs,k,h=>⟨cs,rfl,h⟩
 | (off,n,x)::ps,cs,k,h=>by
  unfold zuy at h
  split at h
  ·rename_i us hx
   have h:=zrp h
   obtain ⟨hc,h⟩:=zz h
   obtain ⟨cs',e,h⟩:=zs7 h
   refine ⟨cs',?_,h⟩
   simp only [zd2,hx,V.refd,V.plain,V.cells,Option.bind_eq_bind,Option.bind_some,hc,and_self,if_true]
   exact e
  ·split at h
   ·rename_i v hv
    obtain ⟨hc,h⟩:=zz h
    obtain ⟨cs',e,h⟩:=zs7 h
    refine ⟨cs',?_,h⟩
    simp only [zd2,hv,Option.bind_eq_bind,Option.bind_some,hc,and_self,if_true]
    exact e
   ·cases h
theorem zEp {op:BinOp} {x y:Value} {k:Value→Option β} (h:zFf op x y k=some r):∃ z,zoK op x y=some z∧k z=some r:=by
 unfold zFf at h
 split at h
 ·obtain ⟨hc,h⟩:=zz h
  exact ⟨_,by simp only [zoK]; rw [if_neg (by omega)],h⟩
 ·obtain ⟨hc,h⟩:=zz h
  exact ⟨_,by simp only [zoK]; rw [if_neg (by omega)],h⟩
 ·obtain ⟨e,h2⟩:=zz h
  clear h
  subst e
  obtain ⟨hc,h⟩:=zz h2
  exact ⟨_,by simp [zoK,hc],h⟩
 ·obtain ⟨e,h2⟩:=zz h
  clear h
  subst e
  obtain ⟨hc,h⟩:=zz h2
  exact ⟨_,by simp [zoK,hc],h⟩
 ·split at h
  ·exact ⟨_,‹_›,h⟩
  ·cases h
theorem zse {σ:St} {x:Option Src} {dflt most:Nat} {k:Nat→Option β} (h:zuo σ x dflt most k=some r):∃ n,znp σ x dflt most=some n∧k n=some r:=by
 unfold zuo at h
 split at h
 ·exact ⟨_,rfl,h⟩
 ·obtain ⟨kd,n,e,h⟩:=ziR h
  obtain ⟨hc,h⟩:=zz h
  exact ⟨_,by simp [znp,e,V.int?,hc],h⟩
theorem zqM {σ:St} {len:Nat} {lo hi mx:Option Src} {k:Nat→Nat→Nat→Option β} (h:zu1 σ len lo hi mx k=some r):∃ l hh m,zke σ len lo hi mx=some (l,hh,m)∧k l hh m=some r:=by
 obtain ⟨m,e1,h⟩:=zse h
 obtain ⟨hh,e2,h⟩:=zse h
 obtain ⟨l,e3,h⟩:=zse h
 exact ⟨l,hh,m,by simp [zke,e1,e2,e3],h⟩
end
def zl2 (c:CBC) (cb:CB):Prop:=∀ (β:Type) (f:Nat) (args:List V) (bor:Bor) (k:V→Bor→Option β) (r:β),c β f args bor k=some r→∃ v b,cb f args bor=some (v,b)∧k v b=some r
section
variable {β:Type} {r:β} {c:CBC} {cb:CB} {sh:Nat→Sh} {nb L:Nat}
theorem zAU {σ:St} {dst:Option Nat} {pin:Bool} {v:V} {κ:St→Option β} (h:zzX nb σ dst pin v κ=some r):∃ σ',σ.putR nb dst pin v=some σ'∧κ σ'=some r:=by
 cases v with
 | fr sz es =>
  cases pin with
  | true =>
   simp only [zzX] at h
   obtain ⟨σ',e,h⟩:=zdZ h
   exact ⟨σ',by simp only [St.putR]; exact e,h⟩
  | false=>exact ⟨_,by simp only [St.putR,St.putG,Bool.false_eq_true,if_false],h⟩
 | _=>exact zdZ h
theorem zCy (b:List B) (id:Nat) (κ:List B→Option β):zx2 b id κ=κ (yR b id):=by
 unfold zx2 yR
 split
 ·rename_i cs h
  cases cs with
  | nil=>simp [ifb,h]
  | cons c cs=>simp [ifb,h]
 ·rename_i h
  split
  ·rename_i c cs h2; exact absurd h2 (h _)
  ·rfl
theorem zoW (σ:St):∀ (srcs:List (Src × Nat)) (b:List B) (κ:List B→Option β),zo2 σ srcs b κ=κ (yr σ srcs b)
 | [],b,κ=>rfl
 | s::rest,b,κ=>by
  unfold zo2 yr
  by_cases h:2≤s.2
  ·rw [if_pos h]; simp only [h,decide_true]; exact zoW σ rest b κ
  ·rw [if_neg h]; simp only [h,decide_false]
   cases xZ (s.1.get σ) with
   | none=>exact zoW σ rest b κ
   | some id=>simp only [zCy]; exact zoW σ rest _ κ
theorem zsf (nb:Nat) {r:β}:∀ (fz:List Nat) (σ:St) (κ:St→Option β),ztT nb fz σ κ=some r→κ (zqx nb fz σ)=some r
 | [],σ,κ,h=>h
 | d::fz,σ,κ,h=>by
  unfold ztT at h
  unfold zqx
  split at h
  ·rename_i cs hb
   obtain ⟨hl,h⟩:=zz h
   have e:yR σ.b (nb+d)=σ.b.set (nb+d) (.fz cs):=by
    cases cs with
    | nil=>simp at hl
    | cons c cs=>unfold yR; rw [hb]
   rw [e]; exact zsf nb fz _ κ h
  ·rename_i hb
   have e:yR σ.b (nb+d)=σ.b:=by
    unfold yR
    split
    ·rename_i c cs h2; exact absurd h2 (hb _)
    ·rfl
   rw [e]; exact zsf nb fz _ κ h
theorem zxd (hc:zl2 c cb) {σ:St} {dst:Option Nat} {pin:Bool} {f:Nat} {args:List V} {srcs:List (Src × Nat)} {xs:List Nat} {κ:St→Option β} (h:zvc c nb σ dst pin f args srcs xs κ=some r):∃ σ',zc9 cb nb σ dst pin f args srcs xs=some σ'∧κ σ'=some r:=by
 unfold zvc at h
 rw [zoW] at h
 simp only at h
 split at h
 ·cases h
 ·rename_i bor hb
  obtain ⟨v,b,e,h⟩:=hc _ _ _ _ _ _ h
  obtain ⟨hl,h⟩:=zz h
  split at h
  ·rename_i ht
   obtain ⟨σ',e2,h⟩:=zAU h
   refine ⟨σ',?_,h⟩
   simp only [Bool.and_eq_true,decide_eq_true_eq] at ht
   obtain ⟨t1,t2,t3,t4,t5,t6,t7,t8⟩:=ht
   unfold zc9
   simp only [hb,Option.bind_eq_bind,Option.bind_some,e]
   rw [if_pos ⟨hl,t1,t2,t3,t4,t5,t6,t7,t8⟩]
   exact e2
  ·cases h
theorem zFS {σ:St} {dst:Option Nat} {pin:Bool} {k:K} {κ:St→Option β} (hk:zh (fun _ _ _=>none) nb σ dst pin k=zh cb nb σ dst pin k) (h:zkJ (zh (fun _ _ _=>none) nb σ dst pin k) κ=some r):∃ σ',zh cb nb σ dst pin k=some σ'∧κ σ'=some r:=by
 obtain ⟨σ',e,h⟩:=zdZ h
 exact ⟨σ',by rw [← hk]; exact e,h⟩
theorem St.set_same {σ:St} {j:Nat} {v:V} (h:σ.t[j]?=some v):({ σ with t:=σ.t.set j v }:St)=σ:=by
 have:σ.t.set j v=σ.t:=by
  apply List.ext_getElem?
  intro i
  rw [List.getElem?_set]
  split
  ·rename_i e; subst e
   split
   ·exact h.symm
   ·rename_i hlt
    rw [List.getElem?_eq_none (by omega)]
  ·rfl
 rw [this]
theorem zwj (hc:zl2 c cb) {σ:St} {dst:Option Nat} {pin:Bool} {k:K} {κ:St→Option β} (h:zbM sh c nb σ dst pin k κ=some r):∃ σ',zh cb nb σ dst pin k=some σ'∧κ σ'=some r:=by
 cases k with
 | pick c a b =>
  obtain ⟨t,e,h⟩:=zlA h
  exact ⟨_,by simp only [zh,xp,e,V.bool?]; rfl,by have:=zDk h; cases t <;> exact this⟩
 | build zero parts =>
  obtain ⟨cs,e,h⟩:=zuv h
  exact ⟨_,by simp only [zh,xp,e]; rfl,h⟩
 | buildSt zero parts =>
  obtain ⟨cs,e,h⟩:=zs7 h
  exact ⟨_,by simp only [zh,xp,e]; rfl,h⟩
 | box p x =>
  simp only [zbM] at h
  split at h
  ·rename_i cs hx
   cases p with
   | true=>cases h
   | false =>
    obtain ⟨σ',e,h⟩:=zdZ h
    exact ⟨σ',by simp only [zh,hx,Bool.false_eq_true,if_false]; exact e,h⟩
  ·rename_i hx
   split at h
   ·rename_i v hv
    have hk:∀ p,zh cb nb σ dst pin (.box p x)=σ.newB nb dst (.live p v.cells) (fun id=>.ptr id 0):=by
     intro p
     cases hxx:x.get σ with
     | st cs=>exact absurd hxx (hx cs)
     | _=>rw [hxx] at hv; simp only [zh,hxx,hv]
    cases p with
    | true =>
     obtain ⟨σ',e,h⟩:=zdZ h
     exact ⟨σ',by rw [hk]; exact e,h⟩
    | false =>
     obtain ⟨σ',e,h⟩:=zdZ (zrp h)
     exact ⟨σ',by rw [hk]; exact e,h⟩
   ·cases h
 | nilT neg x =>
  simp only [zbM] at h
  split at h
  ·rename_i sz es hx
   split at h
   ·rename_i t
    rcases zhv h with ⟨hq,h⟩ | ⟨hq,h⟩
    ·have he:es=[]:=by simpa using hq
     subst he
     have hget:∃ v,σ.t[t]?=some v∧Src.get σ (.tmp t)=v∧zFk v=v:=by
      simp only [Src.get,List.getD_eq_getElem?_getD] at hx ⊢
      cases ht:σ.t[t]? with
      | none=>rw [ht] at hx; simp [V.dem] at hx
      | some v =>
       rw [ht] at hx
       refine ⟨v,rfl,rfl,?_⟩
       have hx:v.dem=.sl sz []:=hx
       match v,hx with
       | .gs a es,hx =>
        have:es=[]:=by simp [V.dem] at hx; exact hx.2
        rw [this]; rfl
       | .sl a es,hx =>
        have:es=[]:=by simp [V.dem] at hx; exact hx.2
        rw [this]; rfl
       | .tup [],hx=>rfl
       | .tup (_::_),hx=>rfl
       | .sc _,hx=>rfl
       | .agg _,hx=>rfl
       | .own _ _ _ _,hx=>rfl
       | .ptr _ _,hx=>rfl
       | .fp _ _,hx=>rfl
       | .fn _ _,hx=>rfl
       | .bx _ _,hx=>rfl
       | .fr _ _,hx=>rfl
       | .ub,hx=>rfl
       | .junk,hx=>rfl
     obtain ⟨v,g1,g2,g3⟩:=hget
     simp only [lt] at h
     rw [g2,g3,St.set_same g1] at h
     exact ⟨_,by simp only [zh,xp,hx]; rfl,h⟩
    ·exact ⟨_,by simp only [zh,xp,hx,hq]; rfl,h⟩
   ·cases h
  ·cases h
 | un op x =>
  simp only [zbM] at h
  split at h
  ·rename_i a ha
   split at h
   ·rename_i z hz
    exact ⟨_,by simp only [zh,xp,ha,hz]; rfl,zCn h⟩
   ·cases h
  ·cases h
 | conv k x =>
  obtain ⟨kd,n,e,h⟩:=ziR h
  exact ⟨_,by simp only [zh,xp,e,V.int?]; rfl,h⟩
 | mm isMax x y =>
  simp only [zbM] at h
  split at h
  ·rename_i k a k' b ha hb
   exact ⟨_,by simp only [zh,xp,ha,hb]; rfl,h⟩
  ·cases h
 | copy sz d s =>
  simp only [zbM] at h
  split at h
  ·rename_i id off len sz1 hd
   obtain ⟨u,e,h⟩:=ziY h
   split at h
   ·rename_i sz2 es
    split at h
    ·rename_i cs hb
     obtain ⟨hc,h⟩:=zz h
     exact ⟨_,by simp only [zh,hd,e,hb]; rw [if_pos hc],h⟩
    ·cases h
   ·cases h
  ·cases h
 | buildSlice sz n zero parts =>
  obtain ⟨cs,e,h⟩:=zuv h
  split at h
  ·rename_i hc
   exact ⟨_,by simp only [zh,e,Option.bind_eq_bind,Option.bind_some]; rw [if_pos (of_decide_eq_true hc)],h⟩
  ·rename_i hc
   obtain ⟨σ',e2,h⟩:=zdZ h
   exact ⟨σ',by simp only [zh,e,Option.bind_eq_bind,Option.bind_some]; rw [if_neg (of_decide_eq_false hc)]; exact e2,h⟩
 | bin op x y =>
  simp only [zbM] at h
  split at h
  ·rename_i a b ha hb
   obtain ⟨z,e,h⟩:=zEp h
   exact ⟨_,by simp only [zh,xp,ha,hb,e]; rfl,zCn h⟩
  ·cases h
 | eqAgg neg n x y =>
  simp only [zbM] at h
  split at h
  ·rename_i a b ha hb
   obtain ⟨hl,t,e,h⟩:=zFM h
   exact ⟨_,by simp only [zh,xp,ha,hb,hl,and_self,if_true,e]; rfl,h⟩
  ·cases h
 | toStr x =>
  obtain ⟨u,e,h⟩:=ziY h
  split at h
  ·obtain ⟨l,e2,h⟩:=zFe h
   exact ⟨_,by simp only [zh,xp,e,e2]; rfl,h⟩
  ·cases h
 | cmpB x y =>
  obtain ⟨u,e,h⟩:=ziY h
  obtain ⟨v,e',h⟩:=ziY h
  split at h
  ·unfold zF8 at h
   split at h
   ·rename_i a ha
    split at h
    ·rename_i b hb
     exact ⟨_,by simp only [zh,xp,e,e',ha,hb]; rfl,h⟩
    ·cases h
   ·cases h
  ·cases h
 | makeSlice sz bytes zero l c =>
  obtain ⟨k1,l',e1,h⟩:=ziR h
  obtain ⟨k2,c',e2,h⟩:=ziR h
  cases pin with
  | true =>
   obtain ⟨hc,h⟩:=zz h
   obtain ⟨σ',e3,h⟩:=zdZ h
   exact ⟨σ',by simp only [zh,e1,e2,V.int?]; rw [if_pos hc,if_pos trivial]; exact e3,h⟩
  | false =>
   obtain ⟨hc,h⟩:=zz h
   obtain ⟨σ',e3,h⟩:=zdZ h
   exact ⟨σ',by simp only [zh,e1,e2,V.int?]; rw [if_pos hc]; simpa using e3,h⟩
 | sliceA n sz x lo hi mx =>
  obtain ⟨l,hh,m,e,h⟩:=zqM h
  split at h
  ·rename_i id off hx
   split at h
   ·rename_i p cs hb
    obtain ⟨hl,h⟩:=zz h
    refine ⟨_,by simp only [zh,xp,e,Option.bind_eq_bind,Option.bind_some,hx,hb,hl,if_true,Option.map_some]; rfl,?_⟩
    rcases zhv h with ⟨q,h⟩ | ⟨q,h⟩
    ·rw [if_pos (by simpa using q)]; exact h
    ·rw [if_neg (by simpa using q)]; exact h
   ·rename_i cs hb
    obtain ⟨hl,h⟩:=zz h
    refine ⟨_,by simp only [zh,xp,e,Option.bind_eq_bind,Option.bind_some,hx,hb,hl,if_true,Option.map_some]; rfl,?_⟩
    rcases zhv h with ⟨q,h⟩ | ⟨q,h⟩
    ·rw [if_pos (by simpa using q)]; exact h
    ·rw [if_neg (by simpa using q)]; exact h
   ·cases h
  ·rename_i q cs hx
   obtain ⟨hl,h⟩:=zz h
   exact ⟨_,by simp only [zh,xp,e,Option.bind_eq_bind,Option.bind_some,hx,hl,if_true,Option.map_some],h⟩
  ·cases h
 | sliceS sz x lo hi mx =>
  simp only [zbM] at h
  split at h
  ·rename_i sz' es hx
   obtain ⟨l,hh,m,e,h⟩:=zqM h
   obtain ⟨hs,h⟩:=zz h
   cases mx with
   | none=>exact ⟨σ.put dst (.sl sz ((es.drop l).take (hh - l))),by simp [zh,xp,e,hx,hs],h⟩
   | some s =>
    refine ⟨_,by simp only [zh,xp,e,hx,hs,Option.bind_eq_bind,Option.bind_some,if_true,Option.map_some]; rfl,?_⟩
    rcases zhv h with ⟨q,h⟩ | ⟨q,h⟩
    ·rw [if_pos ⟨by simp,by simpa using q⟩]; rw [← hs]; exact h
    ·rw [if_neg (by simpa using q)]; rw [← hs]; exact h
  ·rename_i id off len sz' hx
   obtain ⟨l,hh,m,e,h⟩:=zqM h
   obtain ⟨hs,h2⟩:=zz h
   subst hs
   cases mx with
   | none=>exact ⟨_,by simp only [zh,xp,e,hx,Option.bind_eq_bind,Option.bind_some,if_true,Option.map_some,Option.isSome_none,Bool.false_eq_true,if_false],h2⟩
   | some s =>
    refine ⟨_,by simp only [zh,xp,e,hx,Option.bind_eq_bind,Option.bind_some,if_true,Option.map_some,Option.isSome_some]; rfl,?_⟩
    rcases zhv h2 with ⟨q,h⟩ | ⟨q,h⟩
    ·rw [if_pos (by simpa using q)]; exact h
    ·rw [if_neg (by simpa using q)]; exact h
  ·cases h
 | field agg o n x =>
  simp only [zbM] at h
  split at h
  ·rename_i cs hx
   cases agg with
   | true=>exact ⟨_,by simp [zh,xp,hx],h⟩
   | false =>
    obtain ⟨v,e,h⟩:=zp6 h
    exact ⟨_,by simp [zh,xp,hx,e],h⟩
  ·rename_i cs hx
   cases agg with
   | true=>cases h
   | false =>
    simp only at h
    split at h
    ·rename_i v e
     exact ⟨_,by simp [zh,xp,hx,e],h⟩
    ·cases h
  ·cases h
 | indexAddrA len sz x i =>
  obtain ⟨k1,j,e1,h⟩:=ziR h
  obtain ⟨hj,h⟩:=zz h
  split at h
  ·rename_i id off hx
   exact ⟨_,by simp [zh,xp,hx,e1,V.int?,hj],h⟩
  ·rename_i q cs hx
   obtain ⟨hl,h⟩:=zz h
   exact ⟨_,by simp [zh,xp,hx,e1,V.int?,hj,hl],h⟩
  ·cases h
 | indexAddrS sz x i =>
  obtain ⟨k1,j,e1,h⟩:=ziR h
  split at h
  ·rename_i sz' es hx
   obtain ⟨hs,h2⟩:=zz h
   obtain ⟨hj,cc,e,h3⟩:=zFm h2
   subst hs
   exact ⟨_,by simp [zh,xp,hx,e1,V.int?,hj,e],h3⟩
  ·rename_i id off len sz' hx
   obtain ⟨hs,h2⟩:=zz h
   obtain ⟨hj,h3⟩:=zz h2
   subst hs
   exact ⟨_,by simp [zh,xp,hx,e1,V.int?,hj],h3⟩
  ·cases h
 | arrP n sz x =>
  simp only [zbM] at h
  split at h
  ·rename_i sz' es hx
   obtain ⟨hs,h2⟩:=zz h
   obtain ⟨hp,h3⟩:=zz h2
   obtain ⟨hl,h4⟩:=zz h3
   subst hs
   exact ⟨_,by simp [zh,xp,hx,hp,hl],h4⟩
  ·rename_i id off len sz' hx
   obtain ⟨hs,h2⟩:=zz h
   obtain ⟨hp,h3⟩:=zz h2
   obtain ⟨hl,h4⟩:=zz h3
   subst hs
   exact ⟨_,by simp [zh,xp,hx,hp,hl],h4⟩
  ·cases h
 | indexA agg len sz x i =>
  obtain ⟨k1,j,e1,h⟩:=ziR h
  obtain ⟨hj,h⟩:=zz h
  split at h
  ·rename_i cs hx
   cases agg with
   | true=>exact ⟨_,by simp [zh,xp,hx,e1,V.int?,hj],h⟩
   | false =>
    obtain ⟨v,e,h⟩:=zp6 h
    exact ⟨_,by simp [zh,xp,hx,e1,V.int?,hj,e],h⟩
  ·cases h
 | load agg n a take =>
  simp only [zbM] at h
  split at h
  ·rename_i id off hx
   split at h
   ·rename_i p cs hb
    cases agg with
    | true =>
     obtain ⟨hl,h⟩:=zz h
     cases p with
     | true=>exact ⟨_,by simp [zh,hx,hb,hl],h⟩
     | false =>
      cases take with
      | true =>
       obtain ⟨vs,e,h⟩:=zDz h
       exact ⟨_,by simp [zh,hx,hb,hl,e],h⟩
      | false =>
       obtain ⟨vs,e,h⟩:=zq3 h
       exact ⟨_,by simp [zh,hx,hb,hl,e],h⟩
    | false =>
     cases take with
     | true =>
      cases p with
      | true=>cases h
      | false =>
       obtain ⟨v,e,h⟩:=zlP h
       exact ⟨_,by simp [zh,hx,hb,e],h⟩
     | false =>
      obtain ⟨v,e,h⟩:=zCC h
      exact ⟨_,by simp [zh,hx,hb,e],h⟩
   ·rename_i cs hb
    cases agg with
    | true =>
     obtain ⟨hl,h⟩:=zz h
     exact ⟨_,by simp [zh,hx,hb,hl],h⟩
    | false =>
     obtain ⟨v,e,h⟩:=zp6 h
     exact ⟨_,by simp [zh,hx,hb,e],h⟩
   ·cases h
  ·rename_i q cs hx
   cases agg with
   | true =>
    obtain ⟨hl,h⟩:=zz h
    exact ⟨_,by simp [zh,hx,hl],h⟩
   | false =>
    obtain ⟨v,e,h⟩:=zp6 h
    exact ⟨_,by simp [zh,hx,e],h⟩
  ·cases h
 | store n a x =>
  cases dst with
  | some d=>cases h
  | none =>
  simp only [zbM] at h
  split at h
  ·rename_i id off hx
   split at h
   ·rename_i cs hb
    split at h
    ·rename_i v hv
     obtain ⟨hl,h⟩:=zz h
     exact ⟨_,by simp [zh,hx,hb,hv,hl],h⟩
    ·cases h
   ·rename_i cs hb
    cases hxv:x.get σ <;> simp only [hxv] at h
    case agg us =>
     obtain ⟨hl,h⟩:=zz (zrp h)
     exact ⟨_,by simp [zh,hx,hb,hxv,hl],h⟩
    case st us =>
     obtain ⟨hl,h⟩:=zz h
     exact ⟨_,by simp [zh,hx,hb,hxv,hl],h⟩
    case tup=>cases h
    case bx=>cases h
    case fr=>cases h
    case junk=>cases h
    all_goals
     obtain ⟨hl,h⟩:=zz h
     exact ⟨_,by simp [zh,hx,hb,hxv,hl],h⟩
   ·cases h
  ·cases h
 | append sz bytes s x =>
  simp only [zbM] at h
  split at h
  ·rename_i sz1 es hs
   obtain ⟨u,e,h⟩:=ziY h
   split at h
   ·rename_i sz2 es2
    obtain ⟨⟨h1,h2⟩,h⟩:=zz h
    obtain ⟨h3,h⟩:=zz h
    cases pin with
    | true =>
     simp only at h
     split at h
     ·obtain ⟨σ',e3,h⟩:=zdZ h
      refine ⟨σ',?_,h⟩
      simp only [zh,hs,e]
      rw [if_pos ⟨h1,.inl h2,h3⟩]
      exact e3
     ·cases h
    | false =>
     refine ⟨_,?_,h⟩
     simp only [zh,hs,e]
     rw [if_pos ⟨h1,.inl h2,h3⟩]
     rfl
   ·cases h
  ·rename_i sz1 hs
   obtain ⟨u,e,h⟩:=ziY h
   split at h
   ·rename_i sz2 es2
    obtain ⟨⟨h1,h2⟩,h⟩:=zz h
    obtain ⟨h3,h⟩:=zz h
    obtain ⟨σ',e3,h⟩:=zdZ h
    refine ⟨σ',?_,h⟩
    simp only [zh,hs,e]
    rw [if_pos ⟨h1,.inl h2,h3⟩]
    exact e3
   ·cases h
  ·rename_i id off len sz1 hs
   obtain ⟨u,e,h⟩:=ziY h
   split at h
   ·rename_i sz2 es2
    split at h
    ·rename_i cs hb
     obtain ⟨⟨h1,h2,h0⟩,h⟩:=zz h
     obtain ⟨h3,h⟩:=zz h
     obtain ⟨σ',e3,h⟩:=zdZ h
     refine ⟨σ',?_,h⟩
     simp only [zh,hs,e,hb]
     rw [if_pos ⟨h1,.inl h2,h0,h3⟩]
     exact e3
    ·cases h
   ·cases h
  ·cases h
 | unpin x =>
  cases pin with
  | true=>simp only [zbM] at h; cases h
  | false =>
   simp only [zbM] at h
   split at h
   ·rename_i id off len sz hx
    split at h
    ·rename_i cs hb
     obtain ⟨h1,h2⟩:=zz h
     exact ⟨_,by simp only [zh,hx,hb]; rw [if_neg (by simp),if_pos h1],h2⟩
    ·cases h
   ·rename_i sz es hx
    exact ⟨_,by simp only [zh,hx]; rw [if_neg (by simp)],h⟩
   ·cases h
 | clear sz zero x =>
  simp only [zbM] at h
  split at h
  ·rename_i id off len sz1 hx
   split at h
   ·rename_i cs hb
    obtain ⟨h1,h⟩:=zz h
    exact ⟨_,by simp only [zh,hx,hb,h1,if_true],h⟩
   ·cases h
  ·cases h
 | appendZ sz bytes zero s x =>
  simp only [zbM] at h
  split at h
  ·rename_i sz1 es hs
   obtain ⟨kd,n,e,h⟩:=ziR h
   obtain ⟨h1,h⟩:=zz h
   obtain ⟨h2,h⟩:=zz h
   cases pin with
   | true=>cases h
   | false =>
    refine ⟨_,?_,h⟩
    simp only [zh,hs,e,V.int?]
    rw [if_pos ⟨h1,h2⟩]
    rfl
  ·cases h
 | extract x i =>
  simp only [zbM] at h
  split at h
  ·rename_i vs hx
   split at h
   ·rename_i v t hvi
    split at h
    ·rename_i hall
     simp only [Bool.and_eq_true,decide_eq_true_eq] at hall
     split at h
     ·rename_i hh
      obtain ⟨σ',e,h⟩:=zAU h
      refine ⟨σ',?_,h⟩
      simp only [zh,hx,hvi]
      rw [if_pos hall,if_pos hh]
      exact e
     ·rename_i hh
      split at h
      ·cases h
      ·refine ⟨_,?_,h⟩
       simp only [zh,hx,hvi]
       rw [if_pos hall,if_neg (by simp [hh])]
       rfl
    ·cases h
   ·cases h
  ·cases h
 | call f args xs =>
  simp only [zbM] at h
  split at h
  ·rename_i vs e
   obtain ⟨σ',e2,h⟩:=zxd hc h
   exact ⟨σ',by simp only [zh,e]; exact e2,h⟩
  ·cases h
 | callv f args xs =>
  simp only [zbM] at h
  split at h
  ·rename_i g caps hg
   split at h
   ·rename_i vs e
    obtain ⟨σ',e2,h⟩:=zxd hc h
    exact ⟨σ',by simp only [zh,hg,e]; exact e2,h⟩
   ·cases h
  ·cases h
 | mlook kd ok zero x y =>
  simp only [zbM] at h
  split at h
  ·rename_i id hx
   split at h
   ·rename_i es hes
    unfold mAt at h
    split at h
    ·rename_i hko
     split at h
     ·rename_i q hq
      have h:=zx5 h
      cases ok with
      | true=>exact ⟨_,by simp only [zh,hx,hes,hko,if_true,hq,Option.bind_eq_bind,Option.bind_some,Option.pure_def],h⟩
      | false=>exact ⟨_,by simp only [zh,hx,hes,hko,if_true,hq,Option.bind_eq_bind,Option.bind_some,Option.pure_def,Bool.false_eq_true,if_false],h⟩
     ·cases h
    ·cases h
   ·cases h
  ·cases h
 | mput kd x y z =>
  simp only [zbM] at h
  split at h
  ·cases h
  ·split at h
   ·rename_i id hx
    split at h
    ·rename_i es hes
     split at h
     ·rename_i v hv
      unfold zEL at h
      split at h
      ·rename_i hko
       split at h
       ·rename_i q hq
        refine ⟨_,?_,h⟩
        simp only [zh,Option.isSome_none,Bool.false_eq_true,if_false,hx,hes,hko,if_true,hv,hq,Option.bind_eq_bind,Option.bind_some,Option.pure_def]
       ·cases h
      ·cases h
     ·cases h
    ·cases h
   ·cases h
 | _=>exact zFS rfl h
theorem zxK (hc:zl2 c cb) {σ:St} {o:COp} {κ:St→St→Option β} (h:zvg sh c nb σ o κ=some r):∃ σ',yt cb nb σ o=some σ'∧κ σ σ'=some r:=by
 unfold zvg at h
 split at h
 ·rename_i hg
  obtain ⟨σ',e,h⟩:=zwj hc h
  exact ⟨σ',by simp only [yt,hg,zaI]; exact e,h⟩
 ·rename_i j want hg
  split at h
  ·rename_i b hj
   cases want with
   | true =>
    rcases zhv h with ⟨rfl,h⟩ | ⟨rfl,h⟩
    ·simp only [lt] at h
     rw [St.set_same hj] at h
     obtain ⟨σ',e,h⟩:=zwj hc h
     exact ⟨σ',by simp only [yt,hg,zaI,hj]; exact e,h⟩
    ·simp only [lt] at h
     rw [St.set_same hj] at h
     exact ⟨_,by simp only [yt,hg,zaI,hj]; rfl,h⟩
   | false =>
    rcases zhv h with ⟨rfl,h⟩ | ⟨rfl,h⟩
    ·simp only [lt] at h
     rw [St.set_same hj] at h
     exact ⟨_,by simp only [yt,hg,zaI,hj]; rfl,h⟩
    ·simp only [lt] at h
     rw [St.set_same hj] at h
     obtain ⟨σ',e,h⟩:=zwj hc h
     exact ⟨σ',by simp only [yt,hg,zaI,hj]; exact e,h⟩
  ·rename_i hj
   exact ⟨_,by simp only [yt,hg,zaI,hj],h⟩
  ·cases h
theorem zv3 (hc:zl2 c cb):∀ {ops:List COp} {σ:St} {κ:St→Option β},zwe sh c nb ops σ κ=some r→∃ σ',zjk cb nb ops σ=some σ'∧κ σ'=some r
 | [],σ,κ,h=>⟨σ,rfl,h⟩
 | o::ops,σ,κ,h=>by
  obtain ⟨σ1,e1,h⟩:=zxK hc h
  obtain ⟨σ2,e2,h⟩:=zv3 hc h
  exact ⟨σ2,by simp only [zjk,e1,Option.bind_some]; exact e2,h⟩
theorem zzg (hc:zl2 c cb):∀ {ops:List (COp × Fl)} {σ:St} {κ:St→Option β},zAQ sh c nb ops σ κ=some r→∃ σ',zm9 cb nb ops σ=some σ'∧κ σ'=some r
 | [],σ,κ,h=>⟨σ,rfl,h⟩
 | (o,q)::ops,σ,κ,h=>by
  obtain ⟨σ1,e1,h⟩:=zxK hc h
  split at h
  ·rename_i hq
   obtain ⟨σ2,e2,h⟩:=zzg hc h
   exact ⟨σ2,by simp only [zm9,e1,hq,if_true]; exact e2,h⟩
  ·cases h
theorem zAT {body:St→KT β→Option β} {bodyN:St→Option (Ex × St)} {norm:St→St} (hb:∀ σ K,body σ K=some r→∃ ex σ',bodyN σ=some (ex,σ')∧K ex σ'=some r):∀ (n:Nat) (σ:St) (K:KT β),xq body norm n (norm σ) K=some r→∃ ex σ',zlU bodyN norm n σ=some (ex,σ')∧K ex σ'=some r
 | 0,σ,K,h=>by cases h
 | n+1,σ,K,h=>by
  obtain ⟨ex,σ1,e,h⟩:=hb _ _ h
  cases ex with
  | normal =>
   obtain ⟨ex,σ2,e2,h⟩:=zAT hb n σ1 K h
   exact ⟨ex,σ2,by simp only [zlU,e]; exact e2,h⟩
  | exit j=>exact ⟨_,_,by simp only [zlU,e],h⟩
  | ret=>exact ⟨_,_,by simp only [zlU,e],h⟩
theorem zEr {σ σ':St} {dst:Option Nat} {pin:Bool} {k:K} (h:zh (fun _ _ _=>none) nb σ dst pin k=some σ'):zh cb nb σ dst pin k=some σ':=by
 cases k with
 | call f args xs =>
  simp only [zh,zc9,Option.bind_eq_bind,Option.bind_eq_some_iff,Prod.exists] at h
  obtain ⟨_,_,_,_,_,_,h,_⟩:=h
  cases h
 | callv f args xs =>
  simp only [zh] at h
  split at h
  ·simp only [zc9,Option.bind_eq_bind,Option.bind_eq_some_iff,Prod.exists] at h
   obtain ⟨_,_,_,_,_,_,h,_⟩:=h
   cases h
  ·cases h
 | _=>exact h
theorem zzl {σ σ':St} {o:COp} (h:yt (fun _ _ _=>none) nb σ o=some σ'):yt cb nb σ o=some σ':=by
 unfold yt at h ⊢
 split at h
 ·exact zEr h
 ·exact h
 ·cases h
theorem zwF:∀ {ops:List COp} {σ σ':St},zjk (fun _ _ _=>none) nb ops σ=some σ'→zjk cb nb ops σ=some σ'
 | [],σ,σ',h=>h
 | o::ops,σ,σ',h=>by
  simp only [zjk,Option.bind_eq_some_iff] at h ⊢
  obtain ⟨σ1,h1,h2⟩:=h
  exact ⟨σ1,zzl h1,zwF h2⟩
theorem zA1:∀ {ops:List (COp × Fl)} {σ σ':St},zm9 (fun _ _ _=>none) nb ops σ=some σ'→zm9 cb nb ops σ=some σ'
 | [],σ,σ',h=>h
 | (o,q)::ops,σ,σ',h=>by
  simp only [zm9] at h ⊢
  split at h
  ·rename_i σ1 h1
   rw [zzl h1]
   split at h
   ·rename_i hq
    simp only [hq,if_true]
    exact zA1 h
   ·cases h
  ·cases h
theorem zxF:∀ (cc:CC) (σ:St) (r:Ex × St),run (fun _ _ _=>none) nb L cc σ=some r→run cb nb L cc σ=some r:=by
 intro cc
 induction cc with
 | skip=>intro σ r h; exact h
 | reg ops =>
  intro σ r h
  simp only [run,Option.map_eq_some_iff] at h ⊢
  obtain ⟨σ1,h1,h2⟩:=h
  exact ⟨σ1,zwF h1,h2⟩
 | dreg fz ops =>
  intro σ r h
  simp only [run,Option.map_eq_some_iff] at h ⊢
  obtain ⟨σ1,h1,h2⟩:=h
  exact ⟨σ1,zA1 h1,h2⟩
 | seq a b iha ihb =>
  intro σ r h
  simp only [run] at h ⊢
  split at h
  ·rename_i σ1 h1
   rw [iha _ _ h1]
   exact ihb _ _ h
  ·rename_i hne
   obtain ⟨ex,σ1⟩:=r
   rw [iha _ _ h]
   cases ex with
   | normal=>exact absurd h (hne _)
   | exit j=>rfl
   | ret=>rfl
 | fork p s a b ihp iha ihb =>
  intro σ r h
  simp only [run] at h ⊢
  split at h
  ·rename_i σ1 h1
   rw [ihp _ _ h1]
   simp only
   split at h
   ·split at h
    ·rename_i hs
     obtain ⟨e,_⟩:=zwb hs
     rw [iha _ _ (e.trans h),ihb _ _ h]
     rw [e,h] at hs
     simp only [hs,if_true]
    ·cases h
   ·split at h
    ·split at h
     ·rename_i σ2 h2
      rw [iha _ _ h2]
      exact ihb _ _ h
     ·rename_i hne
      obtain ⟨ex,σ2⟩:=r
      rw [iha _ _ h]
      cases ex with
      | normal=>exact absurd h (hne _)
      | exit j=>rfl
      | ret=>rfl
    ·exact ihb _ _ h
    ·cases h
  ·rename_i hne
   obtain ⟨ex,σ1⟩:=r
   rw [ihp _ _ h]
   cases ex with
   | normal=>exact absurd h (hne _)
   | exit j=>rfl
   | ret=>rfl
 | cond s a b iha ihb =>
  intro σ r h
  simp only [run] at h ⊢
  split at h
  ·split at h
   ·rename_i hs
    have e:=ztb hs
    rw [iha _ _ (e.trans h),ihb _ _ h]
    rw [e,h] at hs
    simp only [hs,if_true]
   ·cases h
  ·rename_i hne
   split at h
   ·rename_i t ht
    cases t with
    | true=>simp only [if_true] at h ⊢; exact iha _ _ h
    | false=>simp only [Bool.false_eq_true,if_false] at h ⊢; exact ihb _ _ h
   ·cases h
 | block id a ih =>
  intro σ r h
  simp only [run] at h ⊢
  cases ha:run (fun _ _ _=>none) nb L a σ with
  | none=>rw [ha] at h; cases h
  | some q=>rw [ha] at h; rw [ih _ _ ha]; exact h
 | loop kt kb a ih =>
  intro σ r h
  simp only [run] at h ⊢
  have key:∀ (n:Nat) (σ:St),zlU (run (fun _ _ _=>none) nb L a) (zS nb kt kb) n σ=some r→zlU (run cb nb L a) (zS nb kt kb) n σ=some r:=by
   intro n
   induction n with
   | zero=>intro σ h; cases h
   | succ n ihn =>
    intro σ h
    simp only [zlU] at h ⊢
    cases ha:run (fun _ _ _=>none) nb L a (zS nb kt kb σ) with
    | none=>rw [ha] at h; cases h
    | some q =>
     obtain ⟨ex,σ1⟩:=q
     rw [ha] at h
     rw [ih _ _ ha]
     cases ex with
     | normal=>exact ihn _ h
     | exit j=>exact h
     | ret=>exact h
  exact key L σ h
 | mask kt kb=>intro σ r h; exact h
 | exit id=>intro σ r h; exact h
 | ret=>intro σ r h; exact h
theorem zFr (hc:zl2 c cb):∀ (cc:CC) (σ:St) (K:KT β),xf sh c nb L cc σ K=some r→∃ ex σ',run cb nb L cc σ=some (ex,σ')∧K ex σ'=some r:=by
 intro cc
 induction cc with
 | skip=>intro σ K h; exact ⟨_,_,rfl,h⟩
 | reg ops =>
  intro σ K h
  obtain ⟨σ',e,h⟩:=zv3 hc h
  exact ⟨_,σ',by simp only [run,e]; rfl,h⟩
 | dreg fz ops =>
  intro σ K h
  obtain ⟨σ',e,h⟩:=zzg hc (zsf nb fz σ _ h)
  exact ⟨_,σ',by simp only [run,e]; rfl,h⟩
 | seq a b iha ihb =>
  intro σ K h
  obtain ⟨ex,σ1,e,h⟩:=iha _ _ h
  cases ex with
  | normal =>
   obtain ⟨ex,σ2,e2,h⟩:=ihb _ _ h
   exact ⟨ex,σ2,by simp only [run,e]; exact e2,h⟩
  | exit j=>exact ⟨_,_,by simp only [run,e],h⟩
  | ret=>exact ⟨_,_,by simp only [run,e],h⟩
 | fork p s a b ihp iha ihb =>
  intro σ K h
  obtain ⟨ex,σ1,e,h⟩:=ihp _ _ h
  cases ex with
  | exit j=>exact ⟨_,_,by simp only [run,e],h⟩
  | ret=>exact ⟨_,_,by simp only [run,e],h⟩
  | normal =>
   simp only [zy] at h
   split at h
   ·rename_i hub
    split at h
    ·rename_i hsame
     unfold onR at h
     split at h
     ·rename_i ex σ2 e1
      obtain ⟨e0,_⟩:=zwb hsame
      have ra:=zxF (cb:=cb) _ _ _ (e0.trans e1)
      have rb:=zxF (cb:=cb) _ _ _ e1
      rw [e0,e1] at hsame
      refine ⟨ex,σ2,?_,h⟩
      simp only [run,e,hub,ra,rb,hsame,if_true]
     ·cases h
    ·cases h
   ·rename_i hne
    obtain ⟨t,et,h⟩:=zlA h
    rcases zhv h with ⟨rfl,h⟩ | ⟨rfl,h⟩
    ·obtain ⟨ex,σ2,e1,h⟩:=iha _ _ h
     cases ex with
     | normal =>
      obtain ⟨ex,σ3,e2,h⟩:=ihb _ _ h
      exact ⟨ex,σ3,by simp only [run,e,et,V.bool?,e1]; exact e2,h⟩
     | exit j=>exact ⟨_,_,by simp only [run,e,et,V.bool?,e1],h⟩
     | ret=>exact ⟨_,_,by simp only [run,e,et,V.bool?,e1],h⟩
    ·obtain ⟨ex,σ2,e1,h⟩:=ihb _ _ h
     exact ⟨ex,σ2,by simp only [run,e,et,V.bool?]; exact e1,h⟩
 | cond s a b iha ihb =>
  intro σ K h
  simp only [xf] at h
  split at h
  ·rename_i hub
   split at h
   ·rename_i hsame
    unfold onR at h
    split at h
    ·rename_i ex σ1 e1
     have e0:=ztb hsame
     have ra:=zxF (cb:=cb) _ _ _ (e0.trans e1)
     have rb:=zxF (cb:=cb) _ _ _ e1
     rw [e0,e1] at hsame
     refine ⟨ex,σ1,?_,h⟩
     simp only [run,hub,ra,rb,hsame,if_true]
    ·cases h
   ·cases h
  ·rename_i hne
   obtain ⟨t,e,h⟩:=zlA h
   rcases zhv h with ⟨rfl,h⟩ | ⟨rfl,h⟩
   ·obtain ⟨ex,σ1,e1,h⟩:=iha _ _ h
    exact ⟨ex,σ1,by simp only [run,e,V.bool?,if_true]; exact e1,h⟩
   ·obtain ⟨ex,σ1,e1,h⟩:=ihb _ _ h
    exact ⟨ex,σ1,by simp only [run,e,V.bool?,Bool.false_eq_true,if_false]; exact e1,h⟩
 | block id a ih =>
  intro σ K h
  obtain ⟨ex,σ1,e,h⟩:=ih _ _ h
  cases ex with
  | normal=>exact ⟨_,_,by simp only [run,e],h⟩
  | exit j =>
   simp only [yn] at h
   split at h
   ·rename_i hj
    have hj:=Nat.eq_of_beq_eq_true hj
    exact ⟨_,_,by simp only [run,e,hj,if_true],h⟩
   ·rename_i hj
    have:j≠id:=Nat.ne_of_beq_eq_false hj
    exact ⟨_,_,by simp only [run,e,this,if_false],h⟩
  | ret=>exact ⟨_,_,by simp only [run,e],h⟩
 | loop kt kb a ih =>
  intro σ K h
  obtain ⟨ex,σ',e,h⟩:=zAT ih L σ K h
  exact ⟨ex,σ',by simp only [run]; exact e,h⟩
 | mask kt kb=>intro σ K h; exact ⟨_,_,rfl,h⟩
 | exit id=>intro σ K h; exact ⟨_,_,rfl,h⟩
 | ret=>intro σ K h; exact ⟨_,_,rfl,h⟩
theorem zxf {σ:St} {rv:RV} {k:V→Option β} (h:zo8 nb σ rv k=some r):∃ v,z9 nb σ rv=some v∧k v=some r:=by
 cases rv with
 | cellS t n p=>cases h
 | tmp t =>
  simp only [zo8] at h
  split at h
  ·rename_i id off len sz ht
   split at h
   ·rename_i hge
    have hge:=of_decide_eq_true hge
    split at h
    ·rename_i cs hb
     split at h
     ·rename_i hd
      have hd:=of_decide_eq_true hd
      obtain ⟨hl,h⟩:=zz h
      exact ⟨_,by simp only [z9,ht]; rw [if_pos hge,if_pos hd]; simp only [hb]; rw [if_pos hl],h⟩
     ·cases h
    ·cases h
   ·rename_i hge
    have hge:=of_decide_eq_false hge
    exact ⟨_,by simp only [z9,ht]; rw [if_neg hge],h⟩
  ·rename_i id off ht
   split at h
   ·rename_i p cs hb
    split at h
    ·rename_i hd
     have hd:=of_decide_eq_true hd
     obtain ⟨hl,h⟩:=zz h
     cases p with
     | true=>exact ⟨_,by simp only [z9,ht]; rw [if_pos hd]; simp only [hb]; rw [if_pos hl]; rfl,h⟩
     | false =>
      obtain ⟨vs,e,h⟩:=zq3 h
      exact ⟨_,by simp only [z9,ht]; rw [if_pos hd]; simp only [hb]; rw [if_pos hl]; simp only [Bool.false_eq_true,if_false,e,Option.map_some],h⟩
    ·cases h
   ·cases h
  ·split at h
   ·exact ⟨_,‹_›,h⟩
   ·cases h
 | tmpP t =>
  simp only [zo8] at h
  split at h
  ·rename_i id off len sz ht
   split at h
   ·rename_i hge
    have hge:=of_decide_eq_true hge
    split at h
    ·rename_i cs hb
     exact ⟨_,by simp only [z9,ht]; rw [if_pos hge]; simp only [hb],h⟩
    ·cases h
   ·cases h
  ·split at h
   ·exact ⟨_,‹_›,h⟩
   ·cases h
 | cell t agg n =>
  simp only [zo8] at h
  split at h
  ·rename_i id off ht
   split at h
   ·rename_i p cs hb
    cases agg with
    | true =>
     obtain ⟨hl,h⟩:=zz h
     cases p with
     | true=>exact ⟨_,by simp only [z9,ht,hb,if_true]; rw [if_pos hl],h⟩
     | false =>
      obtain ⟨vs,e,h⟩:=zq3 h
      exact ⟨_,by simp only [z9,ht,hb,if_true]; rw [if_pos hl]; simp only [Bool.false_eq_true,if_false,e,Option.map_some],h⟩
    | false =>
     simp only at h
     split at h
     ·rename_i hd
      have hd:=of_decide_eq_true hd
      obtain ⟨v,e,h⟩:=zlP h
      split at h
      ·rename_i v' hv
       exact ⟨_,by simp only [z9,ht,hb,Bool.false_eq_true,if_false,hd,and_self,if_true,e,Option.bind_some]; exact hv,h⟩
      ·cases h
     ·cases h
   ·cases h
  ·cases h
theorem zvX {σ:St}:∀ {rs:List RV} {k:List V→Option β},zwx nb σ rs k=some r→∃ vs,rs.mapM (z9 nb σ)=some vs∧k vs=some r
 | [],k,h=>⟨[],rfl,h⟩
 | x::rs,k,h=>by
  obtain ⟨v,e,h⟩:=zxf h
  obtain ⟨vs,e2,h⟩:=zvX h
  exact ⟨v::vs,by simp [List.mapM_cons,e,e2],h⟩
theorem zBG {σ:St} {rs:List RV} {k:V→Option β} (h:zsY nb σ rs k=some r):∃ v,results nb σ rs=some v∧k v=some r:=by
 unfold zsY at h
 split at h
 ·rename_i hd
  split at h
  ·obtain ⟨v,e,h⟩:=zxf h
   exact ⟨v,by simp only [results,hd,if_true]; exact e,h⟩
  ·rename_i hne
   obtain ⟨vs,e,h⟩:=zvX h
   refine ⟨.tup vs,?_,h⟩
   simp only [results,hd,if_true,e,Option.map_some]
 ·cases h
theorem zrR {b:List B} {ids:List Nat}:∀ {l:List Nat} {k:Bor→Option β},zuT b nb ids l k=some r→∃ bor,zm8 b nb ids l=some bor∧k bor=some r
 | [],k,h=>⟨[],rfl,h⟩
 | id::l,k,h=>by
  simp only [zuT] at h
  split at h
  ·rename_i p cs hb
   cases p with
   | true =>
    obtain ⟨bor,e,h⟩:=zrR (l:=l) h
    exact ⟨_,by simp only [zm8,hb,B.lend,B.isRow,Bool.true_or,Bool.or_true,Bool.and_self,if_true,e,Option.map_some,B.ren],h⟩
   | false =>
    simp only at h
    split at h
    ·rename_i hd
     obtain ⟨hl,h⟩:=zz h
     obtain ⟨bor,e,h⟩:=zrR (l:=l) h
     exact ⟨_,by simp only [zm8,hb,B.lend,Bool.false_or,hl,hd,Bool.true_or,Bool.and_self,if_true,e,Option.map_some,B.ren,Bool.false_eq_true,if_false],h⟩
    ·cases h
  ·rename_i es hb
   split at h
   ·rename_i hd
    obtain ⟨bor,e,h⟩:=zrR (l:=l) h
    exact ⟨_,by simp only [zm8,hb,B.lend,hd,Bool.true_or,Bool.and_self,if_true,e,Option.map_some,B.ren],h⟩
   ·cases h
  ·rename_i n hb
   split at h
   ·rename_i hd
    obtain ⟨bor,e,h⟩:=zrR (l:=l) h
    exact ⟨_,by simp only [zm8,hb,B.lend,hd,Bool.true_or,Bool.and_self,if_true,e,Option.map_some,B.ren],h⟩
   ·cases h
  ·cases h
theorem zB0 {σ:St} {rs:List RV} {k:V→Bor→Option β} (h:(match zih σ.t.length rs σ with
  | some (σ,rs)=>zsY nb σ rs fun v=>zuT σ.b nb (zd8 nb v) (zd8 nb v) fun b=>match zeH (zd8 nb v) with
   | true=>k (zl8 (xK (zd8 nb v)) v) b
   | false=>none
  | none=>none)=some r):∃ v b,zr6 nb σ rs=some (v,b)∧k v b=some r:=by
 split at h
 rotate_left
 ·cases h
 rename_i σ1 rs1 hu
 obtain ⟨v,e1,h⟩:=zBG h
 obtain ⟨b,e2,h⟩:=zrR h
 split at h
 ·rename_i hd
  refine ⟨_,b,?_,h⟩
  simp only [zr6,hu,zu6,e1,e2,Option.bind_eq_bind,Option.bind_some,hd,if_true,Option.pure_def]
 ·cases h
theorem zFY {T:Nat→Option CF} {pr:CB} {d:Nat} {f:Nat} (hc:zl2 c (evF T pr L d)) {cf:CF} (hT:T f=some cf) {args:List V} {bor:Bor} {k:V→Bor→Option β} (h:zt sh c L cf args bor k=some r):∃ v b,evF T pr L (d+1) f args bor=some (v,b)∧k v b=some r:=by
 have h:zzV sh c L cf args bor k=some r:=by
  unfold zt at h
  split at h
  ·rename_i sz es rest _
   cases es with
   | nil=>exact h
   | cons a l=>exact h
  ·exact h
 obtain ⟨ex,σ',e,h⟩:=zFr hc _ _ _ h
 cases ex with
 | exit j=>cases h
 | normal =>
  obtain ⟨v,b,e1,h⟩:=zB0 h
  exact ⟨v,b,by simp only [evF,hT,e,e1],h⟩
 | ret =>
  obtain ⟨v,b,e1,h⟩:=zB0 h
  exact ⟨v,b,by simp only [evF,hT,e,e1],h⟩
def FOk (T:Nat→Option CF) (L g:Nat) (d:∀ (β:Type),List V→Bor→(V→Bor→Option β)→Option β) (D:Nat):Prop:=∀ n,D≤n→∀ (β:Type) (args:List V) (bor:Bor) (k:V→Bor→Option β) (r:β),d β args bor k=some r→∃ v b,evF T (fun _ _ _=>none) L n g args bor=some (v,b)∧k v b=some r
theorem zF {cb:CB}:zl2 noC cb:=by
 intro β f args bor k r h; cases h
theorem zo {c:CBC} {cb:CB} (hc:zl2 c cb) {g:Nat} {d:∀ (β:Type),List V→Bor→(V→Bor→Option β)→Option β} (hd:∀ (β:Type) (args:List V) (bor:Bor) (k:V→Bor→Option β) (r:β),d β args bor k=some r→∃ v b,cb g args bor=some (v,b)∧k v b=some r):zl2 (xy g d c) cb:=by
 intro β f args bor k r h
 unfold xy at h
 split at h
 ·rename_i hf
  rw [Nat.eq_of_beq_eq_true hf]
  exact hd _ _ _ _ _ h
 ·exact hc _ _ _ _ _ _ h
theorem xE {T:Nat→Option CF} {L g:Nat} {cf:CF} (hT:T g=some cf) {d:∀ (β:Type),List V→Bor→(V→Bor→Option β)→Option β} {D:Nat}
  (h:∀ m,D≤m→∃ (sh:Nat→Sh) (c:CBC),zl2 c (evF T (fun _ _ _=>none) L m)∧∀ (β:Type) (args:List V) (bor:Bor) (k:V→Bor→Option β) (r:β),d β args bor k=some r→zt sh c L cf args bor k=some r):FOk T L g d (D+1):=by
 intro n hn β args bor k r hr
 obtain ⟨m,rfl⟩:∃ m,n=m+1:=⟨n - 1,by omega⟩
 obtain ⟨sh,c,hc,hd⟩:=h m (by omega)
 exact zFY hc hT (hd _ _ _ _ _ hr)
end
end
section
set_option linter.unusedVariables false
set_option linter.unusedSimpArgs false
section
variable {β:Type}
theorem zw {α:Type} (a:α) (k:α→Option β):lt a k=k a:=Eq.trans rfl rfl
theorem yh {p:Prop} {inst:Decidable p} (h:p) (k:Option β):@chk β p inst k=k:=(zmg p k).trans (if_pos h)
theorem zh1 {inst:Decidable True} (k:Option β):@chk β True inst k=k:=(zmg True k).trans (if_pos trivial)
theorem zkE (a b:Option β):ifb true a b=a:=rfl
theorem zje (a b:Option β):ifb false a b=b:=rfl
theorem zu9 {p:Prop} {inst:Decidable p} (a b:Option β):ifb (@decide p inst) a b=if p then a else b:=by
 by_cases h:p <;> simp [ifb,h]
theorem zD {p:Prop} {inst:Decidable p} (h:p) (a b:Option β):ifb (@decide p inst) a b=a:=by rw [zu9,if_pos h]
theorem zE {p:Prop} {inst:Decidable p} (h:¬ p) (a b:Option β):ifb (@decide p inst) a b=b:=by rw [zu9,if_neg h]
theorem zqS {x y:Int} (h:x=y) (a b:Option β):ifb (x == y) a b=a:=by subst h; simp [ifb]
theorem zvV {x y:Int} (h:x≠y) (a b:Option β):ifb (x == y) a b=b:=by rw [beq_eq_false_iff_ne.2 h]; rfl
theorem zo5 {kd:IntKind} {cs:List V} {off:Nat} {n:Int} (h:cs[off]?=some (.sc (.int kd n))) (k:Int→Option β):cI kd cs off k=k n:=by
 simp [cI,zeN,h,aI,zh1]
theorem zmF {sz:Nat} {cs:List V} {off:Nat} {es:List (List V)} (h:cs[off]?=some (.sl sz es)) (k:List (List V)→Option β):cL sz cs off k=k es:=by
 simp [cL,zeN,h,aL,zh1]
theorem zta {sz:Nat} {cs:List V} {off:Nat} {es:List (List V)} (h:cs[off]?=some (.sl sz es)) (k:List (List V)→Option β):cLd sz cs off k=k es:=by
 simp [cLd,zeN,h,aLd,zh1]
theorem zwf {es:List (List V)} {j:Int} {c:List V} (h0:0≤j) (h:es[j.toNat]?=some c) (k:List V→Option β):idx es j k=k c:=by
 simp [idx,h0,h,zh1]
theorem zbp {es:List (List V)} {j:Nat} {c:List V} (h:es[j]?=some c) (k:List V→Option β):idx es (j:Int) k=k c :=
 zwf (Int.natCast_nonneg j) (by simpa using h) k
end
theorem zaJ {n:Int} (h1:-9223372036854775808≤n) (h2:n≤9223372036854775807):IntKind.wrap .i64 n=n:=IntWalk.i64_in _ ⟨h1,h2⟩
theorem zAF {k:IntKind} {n:Int} (hk:k.signed=false) (h1:0≤n) (h2:n < 2 ^ k.bits):IntKind.wrap k n=n:=by
 unfold IntKind.wrap
 simp only [hk,Bool.false_and,Bool.false_eq_true,if_false]
 exact Int.emod_eq_of_lt h1 h2
theorem zaZ {n:Int} (h1:0≤n) (h2:n≤18446744073709551615):IntKind.wrap .u64 n=n:=zAF rfl h1 (Int.lt_of_le_of_lt h2 (by decide))
theorem zkS {n:Int} (h1:0≤n) (h2:n≤4294967295):IntKind.wrap .u32 n=n:=zAF rfl h1 (Int.lt_of_le_of_lt h2 (by decide))
theorem zEJ {n:Int} (h1:0≤n) (h2:n≤65535):IntKind.wrap .u16 n=n:=zAF rfl h1 (Int.lt_of_le_of_lt h2 (by decide))
theorem zGn {n:Int} (h:(Lit.int .i64 n).wf=true):-9223372036854775808≤n∧n≤9223372036854775807:=by
 simpa [Lit.wf,IntKind.min,IntKind.max,IntKind.signed,IntKind.bits] using h
theorem zxW {n:Int} (h:(Lit.int .u32 n).wf=true):0≤n∧n≤4294967295:=by
 simpa [Lit.wf,IntKind.min,IntKind.max,IntKind.signed,IntKind.bits] using h
theorem zCZ {n:Int} (h:(Lit.int .u8 n).wf=true):0≤n∧n≤255:=by
 simpa [Lit.wf,IntKind.min,IntKind.max,IntKind.signed,IntKind.bits] using h
def zq (k:IntKind) (l:List Int):List (List V):=l.map fun n=>[.sc (.int k n)]
theorem yv (k:IntKind) (l:List Int):(zq k l).length=l.length:=by simp [zq]
theorem zD2 (k:IntKind) (l:List Int) (i:Nat):(zq k l).drop i=zq k (l.drop i):=by simp [zq,List.map_drop]
theorem zyW (k:IntKind) (l:List Int) (i:Nat):(zq k l).take i=zq k (l.take i):=by simp [zq,List.map_take]
theorem zaX (k:IntKind) (l m:List Int):zq k l++zq k m=zq k (l++m):=by simp [zq]
theorem HasRow.int1 {k:IntKind} {e:List V} (h:HasRow [.int k] e):∃ n,e=[.sc (.int k n)]∧(Lit.int k n).wf=true:=by
 obtain ⟨h1,h2⟩:=h
 match e,h1 with
 | [v],_ =>
  obtain ⟨n,rfl,hn⟩:=(h2 0 v _ rfl rfl).int_inv
  exact ⟨n,rfl,hn⟩
theorem zyl {k:IntKind}:∀ {es:List (List V)},(∀ e ∈ es,HasRow [.int k] e)→∃ l:List Int,es=zq k l∧∀ n ∈ l,(Lit.int k n).wf=true
 | [],_=>⟨[],rfl,by simp⟩
 | e::es,h=>by
  obtain ⟨n,rfl,hn⟩:=(h e (by simp)).int1
  obtain ⟨l,rfl,hl⟩:=zyl (es:=es) (fun x hx=>h x (by simp [hx]))
  exact ⟨n::l,rfl,by simpa [hn] using hl⟩
def row (k:IntKind) (l:List Int):List V:=l.map fun n=>.sc (.int k n)
theorem yw (k:IntKind) (l:List Int):(row k l).length=l.length:=by simp [row]
theorem zD6 {k:IntKind}:∀ {n:Nat} {vs:List V},HasRow (List.replicate n (.int k)) vs→∃ l:List Int,vs=row k l∧l.length=n∧∀ x ∈ l,(Lit.int k x).wf=true
 | 0,vs,h=>by
  have:vs=[]:=List.length_eq_zero_iff.1 (by simpa using h.1)
  subst this
  exact ⟨[],rfl,rfl,by simp⟩
 | n+1,[],h=>by have:=h.1; simp at this
 | n+1,v::vs,h=>by
  obtain ⟨x,rfl,hx⟩:=(h.2 0 v (.int k) rfl (by simp [List.replicate_succ])).int_inv
  obtain ⟨l,rfl,hl,hw⟩:=zD6 (n:=n) (vs:=vs) ⟨by have:=h.1; simpa using this,fun i c ct hc hct=>h.2 (i+1) c ct (by simpa using hc) (by simpa [List.replicate_succ] using hct)⟩
  exact ⟨x::l,rfl,by simp [hl],by simpa [hx] using hw⟩
theorem zoM (k:IntKind):∀ (n:Nat) (l:List Int),n≤l.length→yp 1 n (row k l)=zq k (l.take n)
 | 0,l,_=>by simp [yp,zq]
 | n+1,[],h=>by simp at h
 | n+1,x::l,h=>by
  have:=zoM k n l (by simpa using h)
  simp only [row] at this
  simp [yp,row,zq,this]
theorem zEO (k:IntKind) (l:List Int) (i:Nat):(row k l).drop i=row k (l.drop i):=by simp [row,List.map_drop]
end
section
set_option linter.unusedVariables false
set_option linter.unusedSimpArgs false
theorem zcp {cs new:List V} (h:new.length=cs.length):zr cs 0 new=new:=by
 simp [zr,h]
theorem zDv {cs:List V} {off:Nat} {v:V} (h:off < cs.length):zr cs off [v]=cs.set off v:=by
 simp only [zr,List.length_singleton]
 rw [List.set_eq_take_append_cons_drop,if_pos h]
 simp
theorem zuJ (k:IntKind):∀ (l m:List Int),l.length=m.length→zdh (row k l) (row k m)=some (decide (l=m))
 | [],[],_=>rfl
 | x::l,y::m,h=>by
  have:=zuJ k l m (by simpa using h)
  simp only [row] at this
  simp only [row,List.map_cons,zdh,if_true,this,Option.map_some]
  congr 1
  by_cases h1:x=y <;> by_cases h2:l=m <;> simp [h1,h2]
theorem zCb {β:Type} (k:IntKind) {n:Nat} {l m:List Int} (h1:l.length=n) (h2:m.length=n) (κ:Bool→Option β):eqC n (row k l) (row k m) κ=κ (decide (l=m)):=by
 simp only [eqC,yw,h1,h2,and_self,zh1,zuJ k l m (by omega)]
theorem zyB {β:Type} (x y:Int) (a b:Option β):ifb (x != y) a b=if x=y then b else a:=by
 by_cases h:x=y
 ·subst h; simp [ifb]
 ·rw [bne_iff_ne.2 h,if_neg h]; rfl
end
section
set_option linter.unusedVariables false
set_option linter.unusedSimpArgs false
def zgM (w:List (List Int)):List (List V):=w.map fun b=>[V.sl 1 (zq .u8 b)]
structure Inp where
 pv:List Int
 seq:Int
 wit:List (List Int)
structure Outp where
 val:Int
 scr:List Int
structure TxT where
 ver:Int
 ins:List Inp
 outs:List Outp
 lock:Int
def zdb (x:Inp):List V:=[V.sc (.int .u8 (x.pv.getD 0 0)),V.sc (.int .u8 (x.pv.getD 1 0)),V.sc (.int .u8 (x.pv.getD 2 0)),V.sc (.int .u8 (x.pv.getD 3 0)),V.sc (.int .u8 (x.pv.getD 4 0)),V.sc (.int .u8 (x.pv.getD 5 0)),V.sc (.int .u8 (x.pv.getD 6 0)),V.sc (.int .u8 (x.pv.getD 7 0)),V.sc (.int .u8 (x.pv.getD 8 0)),V.sc (.int .u8 (x.pv.getD 9 0)),V.sc (.int .u8 (x.pv.getD 10 0)),V.sc (.int .u8 (x.pv.getD 11 0)),V.sc (.int .u8 (x.pv.getD 12 0)),V.sc (.int .u8 (x.pv.getD 13 0)),V.sc (.int .u8 (x.pv.getD 14 0)),V.sc (.int .u8 (x.pv.getD 15 0)),V.sc (.int .u8 (x.pv.getD 16 0)),V.sc (.int .u8 (x.pv.getD 17 0)),V.sc (.int .u8 (x.pv.getD 18 0)),V.sc (.int .u8 (x.pv.getD 19 0)),V.sc (.int .u8 (x.pv.getD 20 0)),V.sc (.int .u8 (x.pv.getD 21 0)),V.sc (.int .u8 (x.pv.getD 22 0)),V.sc (.int .u8 (x.pv.getD 23 0)),V.sc (.int .u8 (x.pv.getD 24 0)),V.sc (.int .u8 (x.pv.getD 25 0)),V.sc (.int .u8 (x.pv.getD 26 0)),V.sc (.int .u8 (x.pv.getD 27 0)),V.sc (.int .u8 (x.pv.getD 28 0)),V.sc (.int .u8 (x.pv.getD 29 0)),V.sc (.int .u8 (x.pv.getD 30 0)),V.sc (.int .u8 (x.pv.getD 31 0)),V.sc (.int .u32 (x.pv.getD 32 0)),V.sc (.int .u32 x.seq),V.sl 1 (zgM x.wit)]
def zd3 (o:Outp):List V:=[V.sc (.int .i64 o.val),V.sl 1 (zq .u8 o.scr)]
def zd1 (t:TxT):List V:=[V.sc (.int .u32 t.ver),V.sl 35 (t.ins.map zdb),V.sl 2 (t.outs.map zd3),V.sc (.int .u32 t.lock)]
section
variable {β:Type}
theorem zi1 (x:Inp) (k:Int→Option β):cI .u32 (zdb x) 33 k=k x.seq:=zo5 rfl k
theorem zrZ (x:Outp) (k:Int→Option β):cI .i64 (zd3 x) 0 k=k x.val:=zo5 rfl k
theorem zmS (x:TxT) (k:Int→Option β):cI .u32 (zd1 x) 0 k=k x.ver:=zo5 rfl k
theorem zgu (x:TxT) (k:Int→Option β):cI .u32 (zd1 x) 3 k=k x.lock:=zo5 rfl k
end
theorem zwq (x:Inp):(zdb x).length=35:=by simp [zdb]
theorem zfJ (x:Inp):List.take 35 (zdb x)=zdb x:=by simp [zdb]
theorem zsu (x:Outp):(zd3 x).length=2:=by simp [zd3]
theorem zla (x:Outp):List.take 2 (zd3 x)=zd3 x:=by simp [zd3]
theorem ziQ (x:TxT):(zd1 x).length=4:=by simp [zd1]
def zci (l:List Int):Prop:=∀ n ∈ l,0≤n∧n≤255
structure InpOk (x:Inp):Prop where
 pv:x.pv.length=33
 by_:∀ j,j < 32→0≤x.pv.getD j 0∧x.pv.getD j 0≤255
 ix:0≤x.pv.getD 32 0∧x.pv.getD 32 0≤4294967295
 seq:0≤x.seq∧x.seq≤4294967295
 wit:∀ b ∈ x.wit,zci b∧b.length≤maxLen
 wl:x.wit.length≤maxLen
structure OutpOk (x:Outp):Prop where
 val:-9223372036854775808≤x.val∧x.val≤9223372036854775807
 scr:zci x.scr
 sl:x.scr.length≤maxLen
structure TxOk (t:TxT):Prop where
 ver:0≤t.ver∧t.ver≤4294967295
 lock:0≤t.lock∧t.lock≤4294967295
 ins:∀ x ∈ t.ins,InpOk x
 outs:∀ x ∈ t.outs,OutpOk x
 il:t.ins.length≤maxLen
 ol:t.outs.length≤maxLen
theorem HasRow.tail {ct:CT} {cts:List CT} {vs:List V} (h:HasRow (ct::cts) vs):∃ v r,vs=v::r∧HasC ct v∧HasRow cts r:=by
 cases vs with
 | nil=>have:=h.1; simp at this
 | cons v r=>exact ⟨v,r,rfl,h.2 0 v ct rfl rfl,⟨by simpa using h.1,fun i c ct hc hct=>h.2 (i+1) c ct (by simpa using hc) (by simpa using hct)⟩⟩
theorem HasRow.nil {vs:List V} (h:HasRow [] vs):vs=[]:=List.length_eq_zero_iff.1 (by simpa using h.1)
theorem zBk:∀ {es:List (List V)},(∀ e ∈ es,HasRow [.sl [.int .u8]] e)→∃ w:List (List Int),es=zgM w∧∀ b ∈ w,zci b∧b.length≤maxLen
 | [],_=>⟨[],rfl,by simp⟩
 | e::es,h=>by
  obtain ⟨v,r,rfl,h1,h2⟩:=(h e (by simp)).tail
  obtain rfl:=h2.nil
  obtain ⟨xs,rfl,hl,hx⟩:=h1.sl_inv
  obtain ⟨l,rfl,hw⟩:=zyl hx
  obtain ⟨w,rfl,hw'⟩:=zBk (es:=es) (fun x hx=>h x (by simp [hx]))
  refine ⟨l::w,rfl,fun b hb=>?_⟩
  rcases List.mem_cons.1 hb with rfl | hb
  ·exact ⟨fun n hn=>zCZ (hw n hn),by simpa [zq] using hl⟩
  ·exact hw' b hb
theorem zBW:∀ {es:List (List V)},(∀ e ∈ es,HasRow [.int .i64,.sl [.int .u8]] e)→∃ w:List Outp,es=w.map zd3∧∀ b ∈ w,OutpOk b
 | [],_=>⟨[],rfl,by simp⟩
 | e::es,h=>by
  obtain ⟨v,r,rfl,h1,h2⟩:=(h e (by simp)).tail
  obtain ⟨v2,r2,rfl,h3,h4⟩:=h2.tail
  obtain rfl:=h4.nil
  obtain ⟨n,rfl,hn⟩:=h1.int_inv
  obtain ⟨xs,rfl,hl,hx⟩:=h3.sl_inv
  obtain ⟨l,rfl,hw⟩:=zyl hx
  obtain ⟨w,rfl,hw'⟩:=zBW (es:=es) (fun x hx=>h x (by simp [hx]))
  refine ⟨⟨n,l⟩::w,rfl,fun b hb=>?_⟩
  rcases List.mem_cons.1 hb with rfl | hb
  ·exact ⟨zGn hn,fun n hn=>zCZ (hw n hn),by simpa [zq] using hl⟩
  ·exact hw' b hb
theorem zEe {a b:List CT} {vs:List V} (h:HasRow (a++b) vs):∃ r s,vs=r++s∧HasRow a r∧HasRow b s:=by
 refine ⟨vs.take a.length,vs.drop a.length,(List.take_append_drop _ _).symm,⟨?_,fun i c ct hc hct=>?_⟩,⟨?_,fun i c ct hc hct=>?_⟩⟩
 ·have:=h.1; simp at this ⊢; omega
 ·have hi:i < a.length:=(List.getElem?_eq_some_iff.1 hct).1
  refine h.2 i c ct ?_ (by rw [List.getElem?_append_left hi]; exact hct)
  rw [List.getElem?_take,if_pos hi] at hc; exact hc
 ·have:=h.1; simp at this ⊢; omega
 ·refine h.2 (a.length+i) c ct (by rw [List.getElem?_drop] at hc; exact hc) ?_
  rw [List.getElem?_append_right (by omega)]; simpa using hct
theorem zBx {l:List Int} (hl:l.length=32) (i s:Int) (w:List (List Int)):row .u8 l++[V.sc (.int .u32 i),V.sc (.int .u32 s),V.sl 1 (zgM w)]=zdb ⟨l++[i],s,w⟩:=by
 match l,hl with
 | [x0,x1,x2,x3,x4,x5,x6,x7,x8,x9,x10,x11,x12,x13,x14,x15,x16,x17,x18,x19,x20,x21,x22,x23,x24,x25,x26,x27,x28,x29,x30,x31],_=>rfl
theorem zDX:∀ {es:List (List V)},(∀ e ∈ es,HasRow (List.replicate 32 (.int .u8)++[.int .u32,.int .u32,.sl [.sl [.int .u8]]]) e)→∃ w:List Inp,es=w.map zdb∧∀ b ∈ w,InpOk b
 | [],_=>⟨[],rfl,by simp⟩
 | e::es,h=>by
  obtain ⟨r,s,rfl,h1,h2⟩:=zEe (h e (by simp))
  obtain ⟨l,rfl,hl,hw⟩:=zD6 h1
  obtain ⟨v1,r1,rfl,g1,h2⟩:=h2.tail
  obtain ⟨v2,r2,rfl,g2,h2⟩:=h2.tail
  obtain ⟨v3,r3,rfl,g3,h2⟩:=h2.tail
  obtain rfl:=h2.nil
  obtain ⟨i,rfl,hi⟩:=g1.int_inv
  obtain ⟨q,rfl,hq⟩:=g2.int_inv
  obtain ⟨xs,rfl,hxl,hx⟩:=g3.sl_inv
  obtain ⟨wt,rfl,hwt⟩:=zBk hx
  obtain ⟨w,rfl,hw'⟩:=zDX (es:=es) (fun x hx=>h x (by simp [hx]))
  refine ⟨⟨l++[i],q,wt⟩::w,by rw [List.map_cons,← zBx hl]; rfl,fun b hb=>?_⟩
  rcases List.mem_cons.1 hb with rfl | hb
  ·refine ⟨by simp [hl],fun j hj=>?_,?_,zxW hq,hwt,by simpa [zgM] using hxl⟩
   ·have:(l++[i]).getD j 0=l[j]'(by omega):=by
     rw [List.getD_eq_getElem?_getD,List.getElem?_append_left (by omega),List.getElem?_eq_getElem (by omega)]; rfl
    show 0≤(l++[i]).getD j 0∧(l++[i]).getD j 0≤255
    rw [this]; exact zCZ (hw _ (List.getElem_mem _))
   ·have:(l++[i]).getD 32 0=i:=by
     rw [List.getD_eq_getElem?_getD,List.getElem?_append_right (by omega),hl]; rfl
    show 0≤(l++[i]).getD 32 0∧(l++[i]).getD 32 0≤4294967295
    rw [this]; exact zxW hi
  ·exact hw' b hb
theorem zGx {a:List V} (h:HasRow ([.int .u32]++[.sl (List.replicate 32 (.int .u8)++List.replicate 2 (.int .u32)++[.sl ([.sl ([.int .u8])])])]++[.sl ([.int .i64]++[.sl ([.int .u8])])]++[.int .u32]) a):∃ t,a=zd1 t∧TxOk t:=by
 obtain ⟨v1,r1,rfl,g1,h⟩:=h.tail
 obtain ⟨v2,r2,rfl,g2,h⟩:=h.tail
 obtain ⟨v3,r3,rfl,g3,h⟩:=h.tail
 obtain ⟨v4,r4,rfl,g4,h⟩:=h.tail
 obtain rfl:=h.nil
 obtain ⟨n,rfl,hn⟩:=g1.int_inv
 obtain ⟨m,rfl,hm⟩:=g4.int_inv
 obtain ⟨xs,rfl,hxl,hx⟩:=g2.sl_inv
 obtain ⟨ys,rfl,hyl,hy⟩:=g3.sl_inv
 obtain ⟨is,rfl,his⟩:=zDX (fun e he=>by
  have:=hx e he
  rw [List.append_assoc] at this
  exact this)
 obtain ⟨os,rfl,hos⟩:=zBW (fun e he=>hy e he)
 exact ⟨⟨n,is,os,m⟩,rfl,⟨zxW hn,zxW hm,his,hos,by simpa using hxl,by simpa using hyl⟩⟩
end
end Go.Proofs.YtoeobffjdbdpgaaDoor
