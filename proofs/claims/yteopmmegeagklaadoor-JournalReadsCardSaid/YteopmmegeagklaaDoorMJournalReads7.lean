/- Part 7 of the proof of JournalReads: an abstract machine over plain values, its soundness, and the functions of the program on plain values. -/
import Derived.Shelf.Spec.SlicesGrow
import Derived.Test.YteopmmegeagklaaDoorMJournalReads6
namespace Go.Proofs.YteopmmegeagklaaDoor
section
def hi0 (n:Nat):Nat:=n
def hi1 (n:Nat):Nat:=hi0 n
def hi2 (n:Nat):Nat:=hi1 n
def hi3 (n:Nat):Nat:=hi2 n
def hi4 (n:Nat):Nat:=hi3 n
def hi5 (n:Nat):Nat:=hi4 n
def hi6 (n:Nat):Nat:=hi5 n
def hi7 (n:Nat):Nat:=hi6 n
def hi8 (n:Nat):Nat:=hi7 n
def hi9 (n:Nat):Nat:=hi8 n
def zGV (n:Nat):Nat:=hi9 n
def zG5 (n:Nat):Nat:=zGV n
def zG8 (n:Nat):Nat:=zG5 n
def zGT (n:Nat):Nat:=zG8 n
def zGU (n:Nat):Nat:=zGT n
def zG6 (n:Nat):Nat:=zGU n
def zG1 (n:Nat):Nat:=zG6 n
def zGW (n:Nat):Nat:=zG1 n
def zG0 (n:Nat):Nat:=zGW n
def zGX (n:Nat):Nat:=zG0 n
def zG9 (n:Nat):Nat:=zGX n
def zHa (n:Nat):Nat:=zG9 n
def zG4 (n:Nat):Nat:=zHa n
def zGZ (n:Nat):Nat:=zG4 n
def zC6 (n:Nat):Nat:=zGZ n
section
variable {β:Type}
def chk (p:Prop) [inst:Decidable p] (k:Option β):Option β:=(fun (_:Nat→Nat)=>match inst with
 | .isTrue _=>k
 | .isFalse _=>none) hi0
theorem zht (p:Prop) [inst:Decidable p] (k:Option β):chk p k=if p then k else none:=by
 cases inst <;> rfl
def ifb (t:Bool) (a b:Option β):Option β:=(fun (_:Nat→Nat)=>match t with
 | true=>a
 | false=>b) hi0
def lt {α:Type} (a:α) (k:α→Option β):Option β:=k a
def aI (kd:IntKind) (v:V) (k:Int→Option β):Option β:=match v with
 | .sc (.int kd' n)=>chk (kd'=kd) (k n)
 | _=>none
def zq7 (v:V) (k:Int→Option β):Option β:=(fun (_:Nat→Nat)=>match v with
 | .sc (.int _ n)=>k n
 | _=>none) hi0
def aB (v:V) (k:Bool→Option β):Option β:=(fun (_:Nat→Nat)=>match v with
 | .sc (.bool b)=>k b
 | _=>none) hi0
def aS (v:V) (k:ByteArray→Option β):Option β:=(fun (_:Nat→Nat)=>match v with
 | .sc (.string s)=>k s
 | _=>none) hi0
def aL (sz:Nat) (v:V) (k:List (List V)→Option β):Option β:=match v with
 | .sl sz' es=>chk (sz'=sz) (k es)
 | _=>none
def aLd (sz:Nat) (v:V) (k:List (List V)→Option β):Option β:=match v with
 | .sl sz' es=>chk (sz'=sz) (k es)
 | .gs sz' es=>chk (sz'=sz) (k es)
 | _=>none
def aA (n:Nat) (v:V) (k:List V→Option β):Option β:=match v with
 | .agg cs=>chk (cs.length=n) (k cs)
 | _=>none
def aG (v:V) (k:List V→Option β):Option β:=(fun (_:Nat→Nat)=>match v with
 | .agg cs=>k cs
 | _=>none) hi0
def aGs (sz:Nat) (v:V) (k:List (List V)→Option β):Option β:=match v with
 | .gs sz' es=>chk (sz'=sz) (k es)
 | _=>none
def aP (id off:Nat) (v:V) (k:Option β):Option β:=match v with
 | .ptr i o=>chk (i=id∧o=off) (k)
 | _=>none
def aM (id:Nat) (v:V) (k:Option β):Option β:=match v with
 | .mp i=>chk (i=id) (k)
 | _=>none
def aO (id sz:Nat) (v:V) (k:Nat→Nat→Option β):Option β:=match v with
 | .own i o l s=>chk (i=id∧s=sz) (k o l)
 | _=>none
def aO0 (id sz:Nat) (v:V) (k:Nat→Option β):Option β:=match v with
 | .own i o l s=>chk (i=id∧s=sz∧o=0) (k l)
 | _=>none
def aFp (n:Nat) (v:V) (k:List V→Option β):Option β:=match v with
 | .fp m cs=>chk (m=n) (k cs)
 | _=>none
def aV (u:Value) (v:V) (k:Option β):Option β:=match u,v with
 | .nilFunc,.sc .nilFunc=>k
 | .pointer none,.sc (.pointer none)=>k
 | .map none,.sc (.map none)=>k
 | _,_=>none
def zCc:List (Nat × Nat)→List V→Bool
 | [],[]=>true
 | (i,o)::r,.ptr a b::s=>Nat.beq i a && (Nat.beq o b && zCc r s)
 | _,_=>false
def aF (f:Nat) (caps:List (Nat × Nat)) (v:V) (k:Option β):Option β:=match v with
 | .fn g cs=>match Nat.beq f g && zCc caps cs with
  | true=>k
  | false=>none
 | _=>none
def zfd (cs:List V) (off:Nat) (k:V→Option β):Option β:=match cs[off]? with
 | some v=>k v
 | none=>none
def idx (es:List (List V)) (j:Int) (k:List V→Option β):Option β:=chk (0≤j) (match es[j.toNat]? with
 | some c=>k c
 | none=>none)
def eqC (n:Nat) (a b:List V) (k:Bool→Option β):Option β:=chk (a.length=n∧b.length=n) (match zgF a b with
 | some r=>k r
 | none=>none)
def zvP (es:List (List V)) (k:ByteArray→Option β):Option β:=match ze5 es with
 | some l=>k ⟨l.toArray⟩
 | none=>none
def zGf (es fs:List (List V)) (k:Int→Option β):Option β:=match ze5 es with
 | some a=>match ze5 fs with
  | some b=>k (Lib.compareBytes a b)
  | none=>none
 | none=>none
def zrD (cs:List V) (k:List V→Option β):Option β:=match cs.mapM V.plain with
 | some vs=>k vs
 | none=>none
def zC4 (cs:List V) (k:List V→Option β):Option β:=match cs.mapM V.refd with
 | some vs=>k vs
 | none=>none
def mAt (kd:Nat) (key:V) (es:List (V × V)) (k:Option V→Option β):Option β:=match zjf kd key with
 | true=>match zsg key es with
  | some r=>k r
  | none=>none
 | false=>none
def zGv (kd:Nat) (key val:V) (es:List (V × V)) (k:List (V × V)→Option β):Option β:=match zjf kd key with
 | true=>match zA3 key val es with
  | some r=>k r
  | none=>none
 | false=>none
def cI (kd:IntKind) (cs:List V) (off:Nat) (k:Int→Option β):Option β:=zfd cs off (fun v=>aI kd v k)
def cB (cs:List V) (off:Nat) (k:Bool→Option β):Option β:=zfd cs off (fun v=>aB v k)
def cS (cs:List V) (off:Nat) (k:ByteArray→Option β):Option β:=zfd cs off (fun v=>aS v k)
def cL (sz:Nat) (cs:List V) (off:Nat) (k:List (List V)→Option β):Option β:=zfd cs off (fun v=>aL sz v k)
def cLd (sz:Nat) (cs:List V) (off:Nat) (k:List (List V)→Option β):Option β:=zfd cs off (fun v=>aLd sz v k)
end
def zf4 (k:IntKind) (a b:Int):Int:=k.wrap (BitVec.ofInt k.bits a &&& BitVec.ofInt k.bits b).toNat
def ior (k:IntKind) (a b:Int):Int:=k.wrap (BitVec.ofInt k.bits a ||| BitVec.ofInt k.bits b).toNat
def zb3 (k:IntKind) (a b:Int):Int:=k.wrap (BitVec.ofInt k.bits a ^^^ BitVec.ofInt k.bits b).toNat
def zHc (k:IntKind) (a b:Int):Int:=k.wrap (BitVec.ofInt k.bits a &&& ~~~ BitVec.ofInt k.bits b).toNat
def zEY (k:IntKind) (n:Int):Int:=k.wrap (BitVec.ofInt k.bits (if k.signed then -1 else k.max) ^^^ BitVec.ofInt k.bits n).toNat
def zbU (k:IntKind) (a b:Int):Int:=k.wrap (a * 2 ^ (min b.toNat k.bits))
def zco (k:IntKind) (a b:Int):Int:=a.fdiv (2 ^ (min b.toNat k.bits))
def zHh (a b:Int):Int:=if b > a then b else a
def zGk (a b:Int):Int:=if b < a then b else a
inductive Sh where
 | any
 | int (k:IntKind)
 | bool
 | str
 | sl (sz:Nat)
 | row (l:List Sh)
def asc {β:Type} (s:Sh) (v:V) (k:V→Option β):Option β:=match s with
 | .any=>k v
 | .int kd=>aI kd v (fun n=>k (.sc (.int kd n)))
 | .bool=>aB v (fun b=>k (.sc (.bool b)))
 | .str=>aS v (fun t=>k (.sc (.string t)))
 | .sl sz=>aL sz v (fun es=>k (.sl sz es))
 | .row _=>none
def zGi {β:Type} (s:Sh) (v:V) (k:V→Option β):Option β:=match s with
 | .any=>k v.dem
 | .int kd=>aI kd v (fun n=>k (.sc (.int kd n)))
 | .bool=>aB v (fun b=>k (.sc (.bool b)))
 | .str=>aS v (fun t=>k (.sc (.string t)))
 | .sl sz=>aLd sz v (fun es=>k (.sl sz es))
 | .row _=>none
def zA8 {β:Type}:List Sh→Nat→List V→(List V→Option β)→Option β
 | [],_,_,k=>k []
 | s::ss,i,cs,k=>zfd cs i fun v=>asc s v fun v=>zA8 ss (i+1) cs fun r=>k (v::r)
def zuI {β:Type} (s:Sh) (cs:List V) (k:List V→Option β):Option β:=match s with
 | .row ss=>chk (cs.length=ss.length) (zA8 ss 0 cs k)
 | _=>k cs
abbrev CBC:=∀ (β:Type),Nat→List V→Bor→(V→Bor→Option β)→Option β
section
variable {β:Type}
abbrev zk0 (o:Option St) (κ:St→Option β):Option β:=match o with
 | some σ=>κ σ
 | none=>none
def ltV (v:Value) (k:Value→Option β):Option β:=match v with
 | .int kd n=>lt n fun n=>k (.int kd n)
 | v=>k v
def zFd:V→V
 | .gs sz _=>.gs sz []
 | .sl sz _=>.sl sz []
 | v=>v
def zCV (t:Bool) (a b:V) (k:V→Option β):Option β:=match a,b with
 | .sc (.bool x),.sc (.bool y)=>k (.sc (.bool (cond t x y)))
 | .sc (.int kd x),.sc (.int kd' y)=>chk (kd=kd') (lt (cond t x y) (fun n=>k (.sc (.int kd n))))
 | a,b=>ifb t (k a) (k b)
def zxZ (σ:St):List (Nat × Nat × Src)→List V→(List V→Option β)→Option β
 | [],cs,k=>k cs
 | (off,n,x)::rest,cs,k=>match (x.get σ).plain with
  | some v=>chk (v.cells.length=n∧off+n≤cs.length) (zxZ σ rest (zr cs off v.cells) k)
  | none=>none
def ztJ (sh:Nat→Sh) (σ:St):List (Nat × Nat × Src)→List V→(List V→Option β)→Option β
 | [],cs,k=>k cs
 | (off,n,x)::rest,cs,k=>match x.get σ with
  | .agg us=>zuI (sh ((x.slot).getD 0)) us fun us=>chk (us.length=n∧off+n≤cs.length) (ztJ sh σ rest (zr cs off us) k)
  | v=>match v.refd with
   | some v=>chk (v.cells.length=n∧off+n≤cs.length) (ztJ sh σ rest (zr cs off v.cells) k)
   | none=>none
def zEd (op:BinOp) (x y:Value) (k:Value→Option β):Option β :=
 match op,x,y with
 | .shl,.int kd a,.int _ b=>chk (0≤b) (k (.int kd (kd.wrap (a * 2 ^ (min b.toNat kd.bits)))))
 | .shr,.int kd a,.int _ b=>chk (0≤b) (k (.int kd (a.fdiv (2 ^ (min b.toNat kd.bits)))))
 | .quo,.int kd a,.int kd' b=>chk (kd=kd') (chk (b≠0) (k (.int kd (kd.wrap (a.tdiv b)))))
 | .rem,.int kd a,.int kd' b=>chk (kd=kd') (chk (b≠0) (k (.int kd (a.tmod b))))
 | op,x,y=>match zoH op x y with
  | some r=>k r
  | none=>none
def ztS (σ:St) (x:Option Src) (dflt:Nat) (most:Nat) (k:Nat→Option β):Option β :=
 match x with
 | none=>k dflt
 | some s=>zq7 (s.get σ) fun i=>chk (0≤i∧i≤most) (k i.toNat)
def zo3 (σ:St) (len:Nat) (lo hi mx:Option Src) (k:Nat→Nat→Nat→Option β):Option β :=
 ztS σ mx len len fun m=>ztS σ hi len m fun h=>ztS σ lo 0 h fun l=>k l h m
def zFT (l h m id off sz:Nat) (k:V→Option β):Option β:=ifb (decide (m=l)) (k (.gs sz [])) (k (.own id (off+l * sz) (h - l) sz))
def znj (b:List B) (v:V) (k:V→Option β):Option β:=match zaW b v with
 | some u=>k u
 | none=>none
def zxT (sh:Sh) (cs:List V) (off:Nat) (k:V→Option β):Option β:=zfd cs off (fun v=>asc sh v k)
def zD5 (sh:Sh) (cs:List V) (off:Nat) (k:V→Option β):Option β:=zfd cs off (fun v=>zGi sh v k)
def zz6 (nb:Nat) (σ:St) (dst:Option Nat) (pin:Bool) (v:V) (κ:St→Option β):Option β:=match v with
 | .fr sz es=>match pin with
  | true=>zk0 (σ.putG nb dst true sz es) κ
  | false=>κ (σ.put dst (.gs sz es))
 | v=>zk0 (σ.putR nb dst pin v) κ
def lc {α β:Type} (l:List α) (a:Option β) (b:α→List α→Option β):Option β:=match l with
 | []=>a
 | x::xs=>b x xs
def zyk (b:List B) (id:Nat) (κ:List B→Option β):Option β:=match b[id]? with
 | some (.live true cs)=>ifb cs.isEmpty (κ b) (κ (b.set id (.fz cs)))
 | _=>κ b
def zo1 (σ:St):List (Src × Nat)→List B→(List B→Option β)→Option β
 | [],b,κ=>κ b
 | s::rest,b,κ=>match decide (2≤s.2) with
  | true=>zo1 σ rest b κ
  | false=>match zam (s.1.get σ) with
   | some id=>zyk b id fun b=>zo1 σ rest b κ
   | none=>zo1 σ rest b κ
def znW (nb:Nat):List Nat→St→(St→Option β)→Option β
 | [],σ,κ=>κ σ
 | d::fz,σ,κ=>match σ.b[nb+d]? with
  | some (.live true cs)=>lc cs (znW nb fz { σ with b:=σ.b.set (nb+d) (.live true []) } κ) (fun c cs=>znW nb fz { σ with b:=σ.b.set (nb+d) (.fz (c::cs)) } κ)
  | _=>znW nb fz σ κ
def zuM (cb:CBC) (nb:Nat) (σ:St) (dst:Option Nat) (pin:Bool) (f:Nat) (args:List V) (srcs:List (Src × Nat)) (xs:List Nat) (κ:St→Option β):Option β :=
 zo1 σ srcs σ.b fun b1 =>
 let σ1:St:={ σ with b:=b1 }
 let ids:=zai σ1.b args
 match zek σ1.b ids ids with
 | none=>none
 | some bor=>cb β f (args.map (zdn (xM ids))) bor fun r bor' =>
  let ids':=ids++(xs.map (nb+·)).take (bor'.length - ids.length)
  chk ((bor'.take ids.length).map B.len=bor.map B.len)
   (match decide (bor'.length=ids'.length) && (args.all (fun a=>(xG a).all ids.contains) && (zxb r && ((zid r).all (fun k=>decide (k < ids'.length)) && (bor'.all (B.lend (List.range ids'.length)) && (zhh (bor'.take ids.length) bor && ((bor'.drop ids.length).all B.isRow && zjv σ1.b nb xs)))))) with
   | true=>zz6 nb { σ1 with b:=zal (fun k=>ids'.getD k 0) ids' bor' σ1.b } dst pin (zlo (fun k=>ids'.getD k 0) r) κ
   | false=>none)
def zbH (sh:Nat→Sh) (cb:CBC) (nb:Nat) (σ:St) (dst:Option Nat) (pin:Bool) (k:K) (κ:St→Option β):Option β :=
 match k with
 | .pick c a b=>aB (c.get σ) fun t=>zCV t (a.get σ).dem (b.get σ).dem fun v=>κ (σ.put dst v)
 | .build zero parts=>zxZ σ parts zero fun cs=>κ (σ.put dst (.agg cs))
 | .buildSt zero parts=>ztJ sh σ parts zero fun cs=>κ (σ.put dst (.st cs))
 | .nilT neg x=>match (x.get σ).dem with
  | .sl _ es=>match x with
   | .tmp t=>ifb es.isEmpty (lt { σ with t:=σ.t.set t (zFd (x.get σ)) } fun σ=>κ (σ.put dst .ub)) (κ (σ.put dst (.sc (.bool neg))))
   | .const _=>none
  | _=>none
 | .un op x=>match x.get σ with
  | .sc a=>match zCC op a with
   | some r=>ltV r fun r=>κ (σ.put dst (.sc r))
   | none=>none
  | _=>none
 | .conv k x=>zq7 (x.get σ) fun n=>lt (k.wrap n) fun n=>κ (σ.put dst (.sc (.int k n)))
 | .mm isMax x y=>match x.get σ,y.get σ with
  | .sc (.int k a),.sc (.int _ b)=>lt (if isMax then (if b > a then b else a) else (if b < a then b else a)) fun n=>κ (σ.put dst (.sc (.int k n)))
  | _,_=>none
 | .copy sz d s=>match d.get σ with
  | .own id off len sz1=>znj σ.b (s.get σ) fun u=>match u with
   | .sl sz2 es=>match σ.b[id]? with
    | some (.live true cs)=>chk (sz1=sz∧sz2=sz) (lt (zr cs off (es.take (min es.length len)).flatten) fun cs'=>κ ((σ.setB id (.live true cs')).put dst (.sc (.int .i64 ((min es.length len:Nat):Int)))))
    | _=>none
   | _=>none
  | _=>none
 | .box p x=>match x.get σ with
  | .st cs=>match p with
   | true=>none
   | false=>zk0 (σ.newB nb dst (.live false cs) (fun id=>.ptr id 0)) κ
  | v=>match v.plain with
   | some v=>match p with
    | true=>zk0 (σ.newB nb dst (.live true v.cells) (fun id=>.ptr id 0)) κ
    | false=>zuI (sh (dst.getD 0)) v.cells fun cs=>zk0 (σ.newB nb dst (.live false cs) (fun id=>.ptr id 0)) κ
   | none=>none
 | .buildSlice sz n zero parts=>zxZ σ parts (List.replicate n zero).flatten fun cs=>match decide (n=0∧pin=true) with
  | true=>κ (σ.put dst (.fr sz []))
  | false=>zk0 (σ.putG nb dst pin sz (zh sz n cs)) κ
 | .bin op x y=>match x.get σ,y.get σ with
  | .sc a,.sc b=>zEd op a b fun r=>ltV r fun r=>κ (σ.put dst (.sc r))
  | _,_=>none
 | .eqAgg neg n x y=>match x.get σ,y.get σ with
  | .agg a,.agg b=>eqC n a b fun r=>κ (σ.put dst (.sc (.bool (if neg then !r else r))))
  | _,_=>none
 | .toStr x=>znj σ.b (x.get σ) fun v=>match v with
  | .sl 1 es=>zvP es fun s=>κ (σ.put dst (.sc (.string s)))
  | _=>none
 | .see x=>match x.get σ with
  | .own id off len sz=>match σ.b[id]? with
   | some (.fz cs)=>κ (σ.put dst (.sl sz (zh sz len (cs.drop off))))
   | some (.live true [])=>chk (len=0) (κ (σ.put dst (.sl sz [])))
   | _=>none
  | _=>none
 | .cmpB x y=>znj σ.b (x.get σ) fun u=>znj σ.b (y.get σ) fun v=>match u,v with
  | .sl 1 es,.sl 1 fs=>zGf es fs fun n=>lt n fun n=>κ (σ.put dst (.sc (.int .i64 n)))
  | _,_=>none
 | .makeSlice sz bytes zero l c=>zq7 (l.get σ) fun l=>zq7 (c.get σ) fun c =>
  match pin with
  | true=>chk (0≤l∧l≤c∧c.toNat * bytes≤xj∧c≤xj) (zk0 (σ.newB nb dst (.live true (List.replicate c.toNat zero).flatten) (fun id=>.own id 0 l.toNat sz)) κ)
  | false=>chk (0≤l∧l≤c∧c.toNat * bytes≤xj∧c≤xj) (zk0 (σ.putG nb dst false sz (List.replicate l.toNat zero)) κ)
 | .sliceA n sz x lo hi mx=>zo3 σ n lo hi mx fun l h m =>
  match x.get σ with
  | .ptr id off=>match σ.b[id]? with
   | some (.live _ cs)=>chk (off+n * sz≤cs.length) (zFT l h m id off sz fun v=>κ (σ.put dst v))
   | some (.fz cs)=>chk (off+n * sz≤cs.length) (ifb (decide (m=l)) (κ (σ.put dst (.gs sz []))) (κ (σ.put dst (.sl sz (zh sz (h - l) (cs.drop (off+l * sz)))))))
   | _=>none
  | .fp q cs=>chk (n * sz≤q) (κ (σ.put dst (.sl sz (zh sz (h - l) (cs.drop (l * sz))))))
  | _=>none
 | .sliceS sz x lo hi mx=>match (x.get σ).dem with
  | .sl sz' es=>zo3 σ es.length lo hi mx fun l h m =>
   chk (sz=sz') (match mx with
    | none=>κ (σ.put dst (.sl sz ((es.drop l).take (h - l))))
    | some _=>ifb (decide (m=l)) (κ (σ.put dst (.fr sz []))) (κ (σ.put dst (.sl sz ((es.drop l).take (h - l))))))
  | .own id off len sz'=>zo3 σ len lo hi mx fun l h m=>chk (sz=sz') (match mx with
    | none=>κ (σ.put dst (.own id (off+l * sz) (h - l) sz))
    | some _=>ifb (decide (m=l)) (κ (σ.put dst (.fr sz []))) (κ (σ.put dst .junk)))
  | .cut id off _ cap sz'=>match hi with
   | some _=>match mx with
    | none=>zo3 σ cap lo hi none fun l h _=>chk (sz=sz') (κ (σ.put dst (.own id (off+l * sz) (h - l) sz)))
    | some _=>none
   | none=>none
  | _=>none
 | .sliceC sz x hi=>match x.get σ with
  | .own id off len sz'=>match hi with
   | some _=>zo3 σ len none hi none fun _ h _=>chk (sz=sz') (κ (σ.put dst (.cut id off h len sz)))
   | none=>none
  | _=>none
 | .field agg o n x=>match x.get σ with
  | .agg cs=>match agg with
   | true=>κ (σ.put dst (.agg ((cs.drop o).take n)))
   | false=>zxT (sh (dst.getD 0)) cs o fun v=>κ (σ.put dst v)
  | .st cs=>match agg with
   | true=>none
   | false=>match cs[o]? with
    | some v=>κ (σ.put dst v)
    | none=>none
  | _=>none
 | .indexAddrA len sz x i=>zq7 (i.get σ) fun j=>chk (0≤j∧j < len) (match x.get σ with
   | .ptr id off=>κ (σ.put dst (.ptr id (off+j.toNat * sz)))
   | .fp n cs=>chk (len * sz≤n) (κ (σ.put dst (.fp (n - j.toNat * sz) (cs.drop (j.toNat * sz)))))
   | _=>none)
 | .indexAddrS sz x i=>zq7 (i.get σ) fun j=>match (x.get σ).dem with
   | .sl sz' es=>chk (sz=sz') (idx es j fun c=>κ (σ.put dst (.fp sz c)))
   | .own id off len sz'=>chk (sz=sz') (chk (0≤j∧j < len) (κ (σ.put dst (.ptr id (off+j.toNat * sz)))))
   | _=>none
 | .arrP n sz x=>match (x.get σ).dem with
   | .sl sz' es=>chk (sz=sz') (chk (0 < n) (chk (n≤es.length) (κ (σ.put dst (.fp (n * sz) (es.take n).flatten)))))
   | .own id off len sz'=>chk (sz=sz') (chk (0 < n) (chk (n≤len) (κ (σ.put dst (.ptr id off)))))
   | _=>none
 | .indexA agg len sz x i=>zq7 (i.get σ) fun j=>chk (0≤j∧j < len) (match x.get σ with
   | .agg cs=>match agg with
    | true=>κ (σ.put dst (.agg ((cs.drop (j.toNat * sz)).take sz)))
    | false=>zxT (sh (dst.getD 0)) cs (j.toNat * sz) fun v=>κ (σ.put dst v)
   | _=>none)
 | .load agg n a take=>match a.get σ with
  | .ptr id off=>match σ.b[id]? with
   | some (.live p cs)=>match agg with
    | true=>chk (off+n≤cs.length) (match p with
     | true=>κ (σ.put dst (.agg ((cs.drop off).take n)))
     | false=>match take with
      | true=>zC4 ((cs.drop off).take n) fun vs=>κ (σ.put dst (.st vs))
      | false=>zrD ((cs.drop off).take n) fun vs=>κ (σ.put dst (.agg vs)))
    | false=>match take with
     | true=>match p with
      | true=>none
      | false=>zfd cs off fun v=>κ ((σ.setB id (.live p (cs.set off v.dem))).put dst v.tk)
     | false=>zD5 (sh (dst.getD 0)) cs off fun v=>κ (σ.put dst v)
   | some (.fz cs)=>match agg with
    | true=>chk (off+n≤cs.length) (κ (σ.put dst (.agg ((cs.drop off).take n))))
    | false=>zxT (sh (dst.getD 0)) cs off fun v=>κ (σ.put dst v)
   | _=>none
  | .fp m cs=>match agg with
   | true=>chk (n≤m) (κ (σ.put dst (.agg (cs.take n))))
   | false=>zxT (sh (dst.getD 0)) cs 0 fun v=>κ (σ.put dst v)
  | _=>none
 | .store n a x=>match dst with
  | some _=>none
  | none=>match a.get σ with
   | .ptr id off=>match σ.b[id]? with
    | some (.live true cs)=>match (x.get σ).plain with
     | some v=>chk (v.cells.length=n∧off+n≤cs.length) (lt (zr cs off v.cells) fun cs'=>κ (σ.setB id (.live true cs')))
     | none=>none
    | some (.live false cs)=>match x.get σ with
     | .agg us=>zuI (sh ((x.slot).getD 0)) us fun us=>chk (us.length=n∧off+n≤cs.length) (κ (σ.setB id (.live false (zr cs off us))))
     | .st us=>chk (us.length=n∧off+n≤cs.length) (κ (σ.setB id (.live false (zr cs off us))))
     | .tup _=>none
     | .bx _ _=>none
     | .fr _ _=>none
     | .junk=>none
     | v=>chk (n=1∧off < cs.length) (κ ((σ.demote x).setB id (.live false (cs.set off v))))
    | _=>none
   | _=>none
 | .append sz bytes s x=>match s.get σ with
  | .gs sz1 es=>znj σ.b (x.get σ) fun u=>match u with
   | .sl sz2 es2=>chk (sz1=sz∧sz2=sz) (chk ((es.length+es2.length) * bytes≤xj∧es.length+es2.length≤xj) (match pin with
    | true=>match s,es with
     | .const _,[]=>zk0 (σ.putG nb dst true sz es2) κ
     | _,_=>none
    | false=>lt (es++es2) fun es'=>κ ((σ.demote s).put dst (.gs sz es'))))
   | _=>none
  | .fr sz1 []=>znj σ.b (x.get σ) fun u=>match u with
   | .sl sz2 es2=>chk (sz1=sz∧sz2=sz) (chk ((0+es2.length) * bytes≤xj∧0+es2.length≤xj) (zk0 ((σ.demote s).putG nb dst pin sz es2) κ))
   | _=>none
  | .own id off len sz1=>znj σ.b (x.get σ) fun u=>match u with
   | .sl sz2 es2=>match σ.b[id]? with
    | some (.live true cs)=>chk (sz1=sz∧sz2=sz∧off=0) (chk ((len+es2.length) * bytes≤xj∧len+es2.length≤xj∧(len+es2.length≠0∨cs.length=0)) (lt (cs.take (len * sz)++es2.flatten) fun cs' =>
     zk0 ((σ.setB id (.dead cs.length)).newB nb dst (.live true cs') (fun id'=>.own id' 0 (len+es2.length) sz)) κ))
    | _=>none
   | _=>none
  | .cut id off len cap sz1=>znj σ.b (x.get σ) fun u=>match u with
   | .sl sz2 es2=>match σ.b[id]? with
    | some (.live true cs)=>match pin with
     | false=>chk (sz1=sz∧sz2=sz∧off=0) (chk (len+es2.length≤cap) (lt (zr cs (len * sz) es2.flatten) fun cs'=>κ ((σ.setB id (.live true cs')).put dst (.cut id 0 (len+es2.length) cap sz))))
     | true=>none
    | _=>none
   | _=>none
  | _=>none
 | .unpin x=>match pin with
  | true=>none
  | false=>match x.get σ with
   | .own id off len sz=>match σ.b[id]? with
    | some (.live true cs)=>chk (off=0∧len * sz≤cs.length∧cs.length≠0) (κ ((σ.setB id (.dead cs.length)).put dst (.gs sz (zh sz len cs))))
    | _=>none
   | .gs sz es=>κ ((σ.demote x).put dst (.gs sz es))
   | _=>none
 | .clear sz zero x=>match x.get σ with
  | .own id off len sz1=>match σ.b[id]? with
   | some (.live true cs)=>chk (sz1=sz) (lt (zr cs off (List.replicate len zero).flatten) fun cs'=>κ ((σ.setB id (.live true cs')).put dst (.tup [])))
   | _=>none
  | _=>none
 | .extract x i=>match x.get σ with
  | .tup vs=>match vs[i]?,x with
   | some v,.tmp t=>match vs.all zAO && decide (dst≠some t) with
    | true=>match v.isHeld with
     | true=>zz6 nb { σ with t:=σ.t.set t (.tup (vs.set i .junk)) } dst pin v κ
     | false=>match pin with
      | true=>none
      | false=>κ (σ.put dst v.dem)
    | false=>none
   | _,_=>none
  | _=>none
 | .appendZ sz bytes zero s x=>match s.get σ with
  | .gs sz1 es=>zq7 (x.get σ) fun n=>chk (sz1=sz) (chk (0≤n∧(es.length+n.toNat) * bytes≤xj∧es.length+n.toNat≤xj) (match pin with
   | true=>none
   | false=>lt (es++List.replicate n.toNat zero) fun es'=>κ ((σ.demote s).put dst (.gs sz es'))))
  | _=>none
 | .mlook kd ok zero x y=>match x.get σ with
  | .mp id=>match σ.b[id]? with
   | some (.mp es)=>mAt kd (y.get σ) es fun r=>asc (sh (dst.getD 0)) (r.getD zero) fun v=>match ok with
    | true=>κ (σ.put dst (.tup [v,.sc (.bool r.isSome)]))
    | false=>κ (σ.put dst v)
   | _=>none
  | _=>none
 | .mput kd x y z=>match dst with
  | some _=>none
  | none=>match x.get σ with
   | .mp id=>match σ.b[id]? with
    | some (.mp es)=>match (z.get σ).plain with
     | some v=>zGv kd (y.get σ) v es fun es'=>κ (σ.setB id (.mp es'))
     | none=>none
    | _=>none
   | _=>none
 | .call f args xs=>match args.mapM (zbe σ) with
  | some vs=>zuM cb nb σ dst pin f vs args xs κ
  | none=>none
 | .callv f args xs=>match f.get σ with
  | .fn g caps=>match args.mapM (zbe σ) with
   | some vs=>zuM cb nb σ dst pin g (vs++caps) args xs κ
   | none=>none
  | _=>none
 | k=>zk0 (zj (fun _ _ _=>none) nb σ dst pin k) κ
def zuK (sh:Nat→Sh) (cb:CBC) (nb:Nat) (σ:St) (o:COp) (κ:St→St→Option β):Option β :=
 match o.guard with
 | none=>zbH sh cb nb σ o.dst o.pin o.k (κ σ)
 | some (j,want)=>match σ.t[j]? with
  | some (.sc (.bool b))=>match want with
   | true=>ifb b (lt { σ with t:=σ.t.set j (.sc (.bool true)) } fun σ=>zbH sh cb nb σ o.dst o.pin o.k (κ σ)) (lt { σ with t:=σ.t.set j (.sc (.bool false)) } fun σ=>κ σ (σ.put o.dst (.tup [])))
   | false=>ifb b (lt { σ with t:=σ.t.set j (.sc (.bool true)) } fun σ=>κ σ (σ.put o.dst (.tup []))) (lt { σ with t:=σ.t.set j (.sc (.bool false)) } fun σ=>zbH sh cb nb σ o.dst o.pin o.k (κ σ))
  | some (.tup [])=>κ σ (σ.put o.dst (.tup []))
  | _=>none
def zv3 (sh:Nat→Sh) (cb:CBC) (nb:Nat):List COp→St→(St→Option β)→Option β
 | [],σ,κ=>κ σ
 | o::rest,σ,κ=>zuK sh cb nb σ o fun _ σ'=>zv3 sh cb nb rest σ' κ
def zBd (sh:Nat→Sh) (cb:CBC) (nb:Nat):List (COp × Fl)→St→(St→Option β)→Option β
 | [],σ,κ=>κ σ
 | (o,q)::rest,σ,κ=>zuK sh cb nb σ o fun σr σ'=>match zev nb σr o q σ' with
  | true=>zBd sh cb nb rest σ' κ
  | false=>none
abbrev KT (β:Type):=Ex→St→Option β
def xO (rb:St→KT β→Option β) (K:KT β):KT β:=(fun (_:Nat→Nat)=>fun ex σ=>match ex with
 | .normal=>rb σ K
 | .exit j=>K (.exit j) σ
 | .ret=>K .ret σ) zC6
def yA (id:Nat) (K:KT β):KT β:=(fun (_:Nat→Nat)=>fun ex σ=>match ex with
 | .normal=>K .normal σ
 | .exit j=>match Nat.beq j id with
  | true=>K .normal σ
  | false=>K (.exit j) σ
 | .ret=>K .ret σ) zC6
def zaJ (norm:St→St) (X:St→Option β) (K:KT β):KT β:=(fun (_:Nat→Nat)=>fun ex σ=>match ex with
 | .normal=>X (norm σ)
 | .exit j=>K (.exit j) σ
 | .ret=>K .ret σ) zC6
def zz (body:St→KT β→Option β) (norm:St→St):Nat→St→KT β→Option β
 | 0,_,_=>none
 | n+1,σ,K=>body σ (zaJ norm (fun σ=>zz body norm n σ K) K)
def onR (o:Option (Ex × St)) (K:KT β):Option β:=(fun (_:Nat→Nat)=>match o with
 | some (ex,σ)=>K ex σ
 | none=>none) zC6
def xk (sh:Nat→Sh) (cb:CBC) (nb:Nat) (L:Nat):CC→St→KT β→Option β
 | .skip,σ,K=>K .normal σ
 | .reg ops,σ,K=>zv3 sh cb nb ops σ (K .normal)
 | .dreg fz ops,σ,K=>znW nb fz σ fun σ=>zBd sh cb nb ops σ (K .normal)
 | .seq a b,σ,K=>xk sh cb nb L a σ (xO (xk sh cb nb L b) K)
 | .fork p c a b,σ,K=>xk sh cb nb L p σ (xO (fun σ K=>match c.get σ with
  | .ub=>match zz7 (run (fun _ _ _=>none) nb L a σ) (run (fun _ _ _=>none) nb L b σ) with
   | true=>onR (run (fun _ _ _=>none) nb L b σ) K
   | false=>none
  | v=>aB v fun t=>ifb t (xk sh cb nb L a σ (xO (xk sh cb nb L b) K)) (xk sh cb nb L b σ K)) K)
 | .cond c a b,σ,K=>match c.get σ with
  | .ub=>match zxr (run (fun _ _ _=>none) nb L a σ) (run (fun _ _ _=>none) nb L b σ) with
   | true=>onR (run (fun _ _ _=>none) nb L b σ) K
   | false=>none
  | v=>aB v fun t=>ifb t (xk sh cb nb L a σ K) (xk sh cb nb L b σ K)
 | .block id a,σ,K=>xk sh cb nb L a σ (yA id K)
 | .loop kt kb a,σ,K=>zz (xk sh cb nb L a) (zZ nb kt kb) L (zZ nb kt kb σ) K
 | .mask kt kb,σ,K=>K .normal (zZ nb kt kb σ)
 | .exit id,σ,K=>K (.exit id) σ
 | .ret,σ,K=>K .ret σ
def zo7 (nb:Nat) (σ:St) (r:RV) (k:V→Option β):Option β:=match r with
 | .cellS _ _ _=>none
 | .tmp t=>match σ.t.getD t .junk with
  | .own id off len sz=>match decide (nb≤id) with
   | true=>match σ.b[id]? with
    | some (.live true cs)=>match decide (off=0∧0 < sz) with
     | true=>chk (len≠0∨cs.length=0) (k (.fr sz (zh sz len cs)))
     | false=>none
    | _=>none
   | false=>k (.own id off len sz)
  | .ptr id off=>match σ.b[id]? with
   | some (.live p cs)=>match decide (off=0∧nb≤id) with
    | true=>chk (cs.length≠0) (match p with
     | true=>k (.bx p cs)
     | false=>zrD cs fun cs=>k (.bx false cs))
    | false=>none
   | _=>none
  | _=>match zaq nb σ (.tmp t) with
   | some v=>k v
   | none=>none
 | .tmpP t=>match σ.t.getD t .junk with
  | .own id off len sz=>match decide (nb≤id∧off=0∧0 < sz) with
   | true=>match σ.b[id]? with
    | some (.live true cs)=>k (.gs sz (zh sz len cs))
    | _=>none
   | false=>none
  | _=>match zaq nb σ (.tmpP t) with
   | some v=>k v
   | none=>none
 | .cell t agg n=>match σ.t.getD t .junk with
  | .ptr id off=>match σ.b[id]? with
   | some (.live p cs)=>match agg with
    | true=>chk (off=0∧cs.length=n∧n≠0) (match p with
     | true=>k (.agg cs)
     | false=>zrD cs fun cs=>k (.agg cs))
    | false=>match decide (n=1∧off=0) with
     | true=>zfd cs 0 fun v=>match v.plain with
      | some v=>k v
      | none=>none
     | false=>none
   | _=>none
  | _=>none
def zwl (nb:Nat) (σ:St):List RV→(List V→Option β)→Option β
 | [],k=>k []
 | r::rs,k=>zo7 nb σ r fun v=>zwl nb σ rs fun vs=>k (v::vs)
def zsP (nb:Nat) (σ:St) (rs:List RV) (k:V→Option β):Option β :=
 match zkd rs && zfg (zhw nb σ rs) with
 | true=>match rs with
  | [r]=>zo7 nb σ r k
  | rs=>zwl nb σ rs fun vs=>k (.tup vs)
 | false=>none
def zuz (b:List B) (nb:Nat) (ids:List Nat):List Nat→(Bor→Option β)→Option β
 | [],k=>k []
 | id::rest,k=>match b[id]? with
  | some (.live p cs)=>match p with
   | true=>zuz b nb ids rest fun l=>k (.live true cs::l)
   | false=>match decide (id < nb) with
    | true=>chk (cs.all (zbJ ids)=true) (zuz b nb ids rest fun l=>k (.live false (cs.map (zdn (xM ids)))::l))
    | false=>none
  | some (.mp es)=>match decide (id < nb) with
   | true=>zuz b nb ids rest fun l=>k (.mp es::l)
   | false=>none
  | some (.dead n)=>match decide (id < nb) with
   | true=>zuz b nb ids rest fun l=>k (.dead n::l)
   | false=>none
  | _=>none
def yP (nb:Nat) (rs:List RV) (k:V→Bor→Option β):KT β:=fun ex σ=>match ex with
 | .exit _=>none
 | _=>match zh4 σ.t.length rs σ with
  | some (σ,rs)=>zsP nb σ rs fun r=>zuz σ.b nb (zex nb r) (zex nb r) fun b=>match zfg (zex nb r) with
   | true=>k (zlo (xM (zex nb r)) r) b
   | false=>none
  | none=>none
def zyO:CC→Bool
 | .fork _ _ _ _=>true
 | .seq a b=>zyO a || zyO b
 | _=>false
def zz5 (sh:Nat→Sh) (cb:CBC) (L:Nat) (c:CF) (args:List V) (bor:Bor) (k:V→Bor→Option β):Option β :=
 xk sh cb bor.length L c.body (enter c.ntmps args bor) (yP bor.length c.res k)
def zw (sh:Nat→Sh) (cb:CBC) (L:Nat) (c:CF) (args:List V) (bor:Bor) (k:V→Bor→Option β):Option β :=
 match zyO c.body,args with
 | true,.sl sz es::rest=>lc es (zz5 sh cb L c (.sl sz []::rest) bor k) (fun x xs=>zz5 sh cb L c (.sl sz (x::xs)::rest) bor k)
 | _,args=>zz5 sh cb L c args bor k
end
def zDE (x:Nat):Nat→Nat→List Bool
 | 0,_=>[]
 | n+1,i=>x.testBit i::zDE x n (i+1)
def bl (x n:Nat):List Bool:=zDE x n 0
def yV:List (Nat × Sh)→Nat→Sh
 | [],_=>.any
 | (m,s)::r,n=>match Nat.beq m n with
  | true=>s
  | false=>yV r n
def zEW:V→Nat
 | .sc (.int _ _)=>1
 | .sc (.bool _)=>2
 | .sc _=>3
 | .agg _=>4
 | .tup _=>5
 | .sl _ _=>6
 | .gs _ _=>7
 | .own _ _ _ _=>8
 | .ptr _ _=>9
 | .fp _ _=>10
 | .fn f _=>100+f
 | .mp _=>12
 | .st _=>13
 | _=>11
def zGM:V→List Nat
 | .st cs=>13::cs.map zEW
 | v=>[zEW v]
def ztF:Bor→List Nat
 | []=>[]
 | .live true _::r=>20::ztF r
 | .live false cs::r=>21::(cs.map zEW++ztF r)
 | .mp _::r=>22::ztF r
 | _::r=>23::ztF r
def zDx:List Nat→List Nat→Bool
 | [],[]=>true
 | a::l,b::m=>Nat.beq a b && zDx l m
 | _,_=>false
def zHf (g:Nat) (tags:List Nat) (d:∀ (β:Type),List V→Bor→(V→Bor→Option β)→Option β) (c:CBC):CBC:=fun β f args bor k=>match Nat.beq f g && zDx tags (args.flatMap zGM++ztF bor) with
 | true=>d β args bor k
 | false=>c β f args bor k
def noC:CBC:=fun _ _ _ _ _=>none
def xB (g:Nat) (d:∀ (β:Type),List V→Bor→(V→Bor→Option β)→Option β) (c:CBC):CBC:=fun β f args bor k=>match Nat.beq f g with
 | true=>d β args bor k
 | false=>c β f args bor k
abbrev tq (n:Nat):Src:=.tmp n
abbrev oo (d:Nat) (k:K):COp:=⟨some d,false,none,k⟩
abbrev oz (k:K):COp:=⟨none,false,none,k⟩
abbrev KK (β:Type):=V→Bor→Option β
def rp:Nat→V→List V→List V
 | 0,_,l=>l
 | n+1,v,l=>v::rp n v l
def jn:Nat→List V→List V
 | 0,l=>l
 | n+1,l=>.junk::jn n l
def gn:Nat→List B→List B
 | 0,l=>l
 | n+1,l=>.gone::gn n l
end
section
set_option linter.unusedVariables false
set_option linter.unusedSimpArgs false
section
variable {β:Type} {r:β}
theorem yB {p:Prop} [Decidable p] {k:Option β} (h:chk p k=some r):p∧k=some r:=by
 rw [zht] at h; split at h
 ·exact ⟨‹_›,h⟩
 ·cases h
theorem zhB {t:Bool} {a b:Option β} (h:ifb t a b=some r):(t=true∧a=some r)∨(t=false∧b=some r):=by
 cases t
 ·exact .inr ⟨rfl,h⟩
 ·exact .inl ⟨rfl,h⟩
theorem xR {kd:IntKind} {v:V} {k:Int→Option β} (h:aI kd v k=some r):∃ n,v=.sc (.int kd n)∧k n=some r:=by
 unfold aI at h; simp only [zht] at h; split at h
 ·split at h
  ·rename_i e; subst e; exact ⟨_,rfl,h⟩
  ·cases h
 ·cases h
theorem zih {v:V} {k:Int→Option β} (h:zq7 v k=some r):∃ kd n,v=.sc (.int kd n)∧k n=some r:=by
 unfold zq7 at h; split at h
 ·exact ⟨_,_,rfl,h⟩
 ·cases h
theorem ztx {v:V} {k:Bool→Option β} (h:aB v k=some r):∃ b,v=.sc (.bool b)∧k b=some r:=by
 unfold aB at h; split at h
 ·exact ⟨_,rfl,h⟩
 ·cases h
theorem zDp {v:V} {k:ByteArray→Option β} (h:aS v k=some r):∃ s,v=.sc (.string s)∧k s=some r:=by
 unfold aS at h; split at h
 ·exact ⟨_,rfl,h⟩
 ·cases h
theorem zP {sz:Nat} {v:V} {k:List (List V)→Option β} (h:aL sz v k=some r):∃ es,v=.sl sz es∧k es=some r:=by
 unfold aL at h; simp only [zht] at h; split at h
 ·split at h
  ·rename_i e; subst e; exact ⟨_,rfl,h⟩
  ·cases h
 ·cases h
theorem zFg {sz:Nat} {v:V} {k:List (List V)→Option β} (h:aLd sz v k=some r):∃ es,v.dem=.sl sz es∧k es=some r:=by
 unfold aLd at h; simp only [zht] at h; split at h
 ·split at h
  ·rename_i e; subst e; exact ⟨_,rfl,h⟩
  ·cases h
 ·split at h
  ·rename_i e; subst e; exact ⟨_,rfl,h⟩
  ·cases h
 ·cases h
theorem zgK {v:V} {k:List V→Option β} (h:aG v k=some r):∃ cs,v=.agg cs∧k cs=some r:=by
 unfold aG at h; split at h
 ·exact ⟨_,rfl,h⟩
 ·cases h
theorem zwE {id off:Nat} {v:V} {k:Option β} (h:aP id off v k=some r):v=.ptr id off∧k=some r:=by
 unfold aP at h; simp only [zht] at h; split at h
 ·split at h
  ·rename_i e; rw [e.1,e.2]; exact ⟨rfl,h⟩
  ·cases h
 ·cases h
theorem zlj {cs:List V} {off:Nat} {k:V→Option β} (h:zfd cs off k=some r):∃ v,cs[off]?=some v∧k v=some r:=by
 unfold zfd at h; split at h
 ·exact ⟨_,‹_›,h⟩
 ·cases h
theorem zFG {es:List (List V)} {j:Int} {k:List V→Option β} (h:idx es j k=some r):0≤j∧∃ c,es[j.toNat]?=some c∧k c=some r:=by
 unfold idx at h; simp only [zht] at h; split at h
 ·split at h
  ·exact ⟨‹_›,_,‹_›,h⟩
  ·cases h
 ·cases h
theorem zFy {n:Nat} {a b:List V} {k:Bool→Option β} (h:eqC n a b k=some r):(a.length=n∧b.length=n)∧∃ t,zgF a b=some t∧k t=some r:=by
 unfold eqC at h; simp only [zht] at h; split at h
 ·split at h
  ·exact ⟨‹_›,_,‹_›,h⟩
  ·cases h
 ·cases h
theorem zEz {es:List (List V)} {k:ByteArray→Option β} (h:zvP es k=some r):∃ l,ze5 es=some l∧k ⟨l.toArray⟩=some r:=by
 unfold zvP at h; split at h
 ·exact ⟨_,‹_›,h⟩
 ·cases h
theorem zrg {cs:List V} {k:List V→Option β} (h:zrD cs k=some r):∃ vs,cs.mapM V.plain=some vs∧k vs=some r:=by
 unfold zrD at h; split at h
 ·exact ⟨_,‹_›,h⟩
 ·cases h
theorem zDG {cs:List V} {k:List V→Option β} (h:zC4 cs k=some r):∃ vs,cs.mapM V.refd=some vs∧k vs=some r:=by
 unfold zC4 at h
 split at h
 ·exact ⟨_,‹_›,h⟩
 ·cases h
theorem zet {o:Option St} {κ:St→Option β} (h:zk0 o κ=some r):∃ σ,o=some σ∧κ σ=some r:=by
 unfold zk0 at h; split at h
 ·exact ⟨_,rfl,h⟩
 ·cases h
theorem zgV {b:List B} {v:V} {k:V→Option β} (h:znj b v k=some r):∃ u,zaW b v=some u∧k u=some r:=by
 unfold znj at h; split at h
 ·exact ⟨_,‹_›,h⟩
 ·cases h
theorem zyr {s:Sh} {v:V} {k:V→Option β} (h:asc s v k=some r):k v=some r:=by
 cases s with
 | any=>exact h
 | int kd=>obtain ⟨n,e,h'⟩:=xR h; subst e; exact h'
 | bool=>obtain ⟨n,e,h'⟩:=ztx h; subst e; exact h'
 | str=>obtain ⟨n,e,h'⟩:=zDp h; subst e; exact h'
 | sl sz=>obtain ⟨n,e,h'⟩:=zP h; subst e; exact h'
 | row l=>cases h
theorem zEj {s:Sh} {v:V} {k:V→Option β} (h:zGi s v k=some r):k v.dem=some r:=by
 cases s with
 | any=>exact h
 | int kd=>obtain ⟨n,e,h'⟩:=xR h; subst e; exact h'
 | bool=>obtain ⟨n,e,h'⟩:=ztx h; subst e; exact h'
 | str=>obtain ⟨n,e,h'⟩:=zDp h; subst e; exact h'
 | sl sz=>obtain ⟨n,e,h⟩:=zFg h; rw [e]; exact h
 | row l=>cases h
theorem zxm:∀ {ss:List Sh} {i:Nat} {cs:List V} {k:List V→Option β},zA8 ss i cs k=some r→i+ss.length=cs.length→k (cs.drop i)=some r
 | [],i,cs,k,h,hl=>by
  rw [List.drop_of_length_le (by simp at hl; omega)]
  exact h
 | s::ss,i,cs,k,h,hl=>by
  obtain ⟨v,e,h⟩:=zlj h
  have h:=zxm (zyr h) (by simp at hl; omega)
  obtain ⟨hi,rfl⟩:=List.getElem?_eq_some_iff.1 e
  rw [List.drop_eq_getElem_cons hi]
  exact h
theorem zqL {s:Sh} {cs:List V} {k:List V→Option β} (h:zuI s cs k=some r):k cs=some r:=by
 cases s with
 | row ss =>
  obtain ⟨hl,h⟩:=yB h
  have:=zxm h (by omega)
  simpa using this
 | _=>exact h
theorem zqw {s:Sh} {cs:List V} {off:Nat} {k:V→Option β} (h:zxT s cs off k=some r):∃ v,cs[off]?=some v∧k v=some r:=by
 obtain ⟨v,e,h⟩:=zlj h; exact ⟨v,e,zyr h⟩
theorem zCU {s:Sh} {cs:List V} {off:Nat} {k:V→Option β} (h:zD5 s cs off k=some r):∃ v,cs[off]?=some v∧k v.dem=some r:=by
 obtain ⟨v,e,h⟩:=zlj h; exact ⟨v,e,zEj h⟩
theorem zB8 {v:Value} {k:Value→Option β} (h:ltV v k=some r):k v=some r:=by
 cases v <;> exact h
theorem zD2 {t:Bool} {a b:V} {k:V→Option β} (h:zCV t a b k=some r):k (if t then a else b)=some r:=by
 unfold zCV at h; simp only [zht] at h
 split at h
 ·cases t <;> exact h
 ·split at h
  ·rename_i e; subst e; cases t <;> exact h
  ·cases h
 ·rcases zhB h with ⟨rfl,h⟩ | ⟨rfl,h⟩ <;> exact h
theorem zul {σ:St}:∀ {ps:List (Nat × Nat × Src)} {cs:List V} {k:List V→Option β},zxZ σ ps cs k=some r→∃ cs',zb4 σ ps cs=some cs'∧k cs'=some r
 | [],cs,k,h=>⟨cs,rfl,h⟩
 | (off,n,x)::ps,cs,k,h=>by
  unfold zxZ at h
  split at h
  ·rename_i v hv
   obtain ⟨hc,h⟩:=yB h
   obtain ⟨cs',e,h⟩:=zul h
   refine ⟨cs',?_,h⟩
   simp only [zb4,hv,Option.bind_eq_bind,Option.bind_some,hc,and_self,if_true]
   exact e
  ·cases h
theorem zsj {sh:Nat→Sh} {σ:St}:∀ {ps:List (Nat × Nat × Src)} {cs:List V} {k:List V→Option β},ztJ sh σ ps cs k=some r→∃ cs',zeo σ ps cs=some cs'∧k cs'=some r
 | [],cs,k,h=>⟨cs,rfl,h⟩
 | (off,n,x)::ps,cs,k,h=>by
  unfold ztJ at h
  split at h
  ·rename_i us hx
   have h:=zqL h
   obtain ⟨hc,h⟩:=yB h
   obtain ⟨cs',e,h⟩:=zsj h
   refine ⟨cs',?_,h⟩
   simp only [zeo,hx,V.refd,V.plain,V.cells,Option.bind_eq_bind,Option.bind_some,hc,and_self,if_true]
   exact e
  ·split at h
   ·rename_i v hv
    obtain ⟨hc,h⟩:=yB h
    obtain ⟨cs',e,h⟩:=zsj h
    refine ⟨cs',?_,h⟩
    simp only [zeo,hv,Option.bind_eq_bind,Option.bind_some,hc,and_self,if_true]
    exact e
   ·cases h
theorem zEL {op:BinOp} {x y:Value} {k:Value→Option β} (h:zEd op x y k=some r):∃ z,zoH op x y=some z∧k z=some r:=by
 unfold zEd at h
 split at h
 ·obtain ⟨hc,h⟩:=yB h
  exact ⟨_,by simp only [zoH]; rw [if_neg (by omega)],h⟩
 ·obtain ⟨hc,h⟩:=yB h
  exact ⟨_,by simp only [zoH]; rw [if_neg (by omega)],h⟩
 ·obtain ⟨e,h2⟩:=yB h
  clear h
  subst e
  obtain ⟨hc,h⟩:=yB h2
  exact ⟨_,by simp [zoH,hc],h⟩
 ·obtain ⟨e,h2⟩:=yB h
  clear h
  subst e
  obtain ⟨hc,h⟩:=yB h2
  exact ⟨_,by simp [zoH,hc],h⟩
 ·split at h
  ·exact ⟨_,‹_›,h⟩
  ·cases h
theorem zsR {σ:St} {x:Option Src} {dflt most:Nat} {k:Nat→Option β} (h:ztS σ x dflt most k=some r):∃ n,zlB σ x dflt most=some n∧k n=some r:=by
 unfold ztS at h
 split at h
 ·exact ⟨_,rfl,h⟩
 ·obtain ⟨kd,n,e,h⟩:=zih h
  obtain ⟨hc,h⟩:=yB h
  exact ⟨_,by simp [zlB,e,V.int?,hc],h⟩
theorem zkk {σ:St} {len:Nat} {lo hi mx:Option Src} {k:Nat→Nat→Nat→Option β} (h:zo3 σ len lo hi mx k=some r):∃ l hh m,zgD σ len lo hi mx=some (l,hh,m)∧k l hh m=some r:=by
 obtain ⟨m,e1,h⟩:=zsR h
 obtain ⟨hh,e2,h⟩:=zsR h
 obtain ⟨l,e3,h⟩:=zsR h
 exact ⟨l,hh,m,by simp [zgD,e1,e2,e3],h⟩
end
def zlE (c:CBC) (cb:CB):Prop:=∀ (β:Type) (f:Nat) (args:List V) (bor:Bor) (k:V→Bor→Option β) (r:β),c β f args bor k=some r→∃ v b,cb f args bor=some (v,b)∧k v b=some r
section
variable {β:Type} {r:β} {c:CBC} {cb:CB} {sh:Nat→Sh} {nb L:Nat}
theorem zAX {σ:St} {dst:Option Nat} {pin:Bool} {v:V} {κ:St→Option β} (h:zz6 nb σ dst pin v κ=some r):∃ σ',σ.putR nb dst pin v=some σ'∧κ σ'=some r:=by
 cases v with
 | fr sz es =>
  cases pin with
  | true =>
   simp only [zz6] at h
   obtain ⟨σ',e,h⟩:=zet h
   exact ⟨σ',by simp only [St.putR]; exact e,h⟩
  | false=>exact ⟨_,by simp only [St.putR,St.putG,Bool.false_eq_true,if_false],h⟩
 | _=>exact zet h
theorem zCr (b:List B) (id:Nat) (κ:List B→Option β):zyk b id κ=κ (yT b id):=by
 unfold zyk yT
 split
 ·rename_i cs h
  cases cs with
  | nil=>simp [ifb,h]
  | cons c cs=>simp [ifb,h]
 ·rename_i h
  split
  ·rename_i c cs h2; exact absurd h2 (h _)
  ·rfl
theorem zoU (σ:St):∀ (srcs:List (Src × Nat)) (b:List B) (κ:List B→Option β),zo1 σ srcs b κ=κ (yu σ srcs b)
 | [],b,κ=>rfl
 | s::rest,b,κ=>by
  unfold zo1 yu
  by_cases h:2≤s.2
  ·rw [if_pos h]; simp only [h,decide_true]; exact zoU σ rest b κ
  ·rw [if_neg h]; simp only [h,decide_false]
   cases zam (s.1.get σ) with
   | none=>exact zoU σ rest b κ
   | some id=>simp only [zCr]; exact zoU σ rest _ κ
theorem zoK (nb:Nat) {r:β}:∀ (fz:List Nat) (σ:St) (κ:St→Option β),znW nb fz σ κ=some r→κ (zoX nb fz σ)=some r
 | [],σ,κ,h=>h
 | d::fz,σ,κ,h=>by
  unfold znW at h
  unfold zoX
  split at h
  ·rename_i cs hb
   cases cs with
   | nil =>
    have e:yT σ.b (nb+d)=σ.b:=by unfold yT; rw [hb]
    have e2:σ.b.set (nb+d) (.live true [])=σ.b:=by
     apply List.ext_getElem?
     intro i
     rw [List.getElem?_set]
     split
     ·rename_i hi; subst hi
      rw [hb,if_pos (List.getElem?_eq_some_iff.1 hb).1]
     ·rfl
    have h:znW nb fz { σ with b:=σ.b.set (nb+d) (.live true []) } κ=some r:=h
    rw [e2] at h
    rw [e]; exact zoK nb fz _ κ h
   | cons c cs =>
    have e:yT σ.b (nb+d)=σ.b.set (nb+d) (.fz (c::cs)):=by unfold yT; rw [hb]
    have h:znW nb fz { σ with b:=σ.b.set (nb+d) (.fz (c::cs)) } κ=some r:=h
    rw [e]; exact zoK nb fz _ κ h
  ·rename_i hb
   have e:yT σ.b (nb+d)=σ.b:=by
    unfold yT
    split
    ·rename_i c cs h2; exact absurd h2 (hb _)
    ·rfl
   rw [e]; exact zoK nb fz _ κ h
theorem zxY (hc:zlE c cb) {σ:St} {dst:Option Nat} {pin:Bool} {f:Nat} {args:List V} {srcs:List (Src × Nat)} {xs:List Nat} {κ:St→Option β} (h:zuM c nb σ dst pin f args srcs xs κ=some r):∃ σ',zdv cb nb σ dst pin f args srcs xs=some σ'∧κ σ'=some r:=by
 unfold zuM at h
 rw [zoU] at h
 simp only at h
 split at h
 ·cases h
 ·rename_i bor hb
  obtain ⟨v,b,e,h⟩:=hc _ _ _ _ _ _ h
  obtain ⟨hl,h⟩:=yB h
  split at h
  ·rename_i ht
   obtain ⟨σ',e2,h⟩:=zAX h
   refine ⟨σ',?_,h⟩
   simp only [Bool.and_eq_true,decide_eq_true_eq] at ht
   obtain ⟨t1,t2,t3,t4,t5,t6,t7,t8⟩:=ht
   unfold zdv
   simp only [hb,Option.bind_eq_bind,Option.bind_some,e]
   rw [if_pos ⟨hl,t1,t2,t3,t4,t5,t6,t7,t8⟩]
   exact e2
  ·cases h
theorem zFm {σ:St} {dst:Option Nat} {pin:Bool} {k:K} {κ:St→Option β} (hk:zj (fun _ _ _=>none) nb σ dst pin k=zj cb nb σ dst pin k) (h:zk0 (zj (fun _ _ _=>none) nb σ dst pin k) κ=some r):∃ σ',zj cb nb σ dst pin k=some σ'∧κ σ'=some r:=by
 obtain ⟨σ',e,h⟩:=zet h
 exact ⟨σ',by rw [← hk]; exact e,h⟩
theorem St.set_same {σ:St} {j:Nat} {v:V} (h:σ.t[j]?=some v):({ σ with t:=σ.t.set j v }:St)=σ:=by
 have:σ.t.set j v=σ.t:=by
  apply List.ext_getElem?
  intro i
  rw [List.getElem?_set]
  split
  ·rename_i e; subst e
   split
   ·exact h.symm
   ·rename_i hlt
    rw [List.getElem?_eq_none (by omega)]
  ·rfl
 rw [this]
theorem zvX (hc:zlE c cb) {σ:St} {dst:Option Nat} {pin:Bool} {k:K} {κ:St→Option β} (h:zbH sh c nb σ dst pin k κ=some r):∃ σ',zj cb nb σ dst pin k=some σ'∧κ σ'=some r:=by
 cases k with
 | pick c a b =>
  obtain ⟨t,e,h⟩:=ztx h
  exact ⟨_,by simp only [zj,xr,e,V.bool?]; rfl,by have:=zD2 h; cases t <;> exact this⟩
 | build zero parts =>
  obtain ⟨cs,e,h⟩:=zul h
  exact ⟨_,by simp only [zj,xr,e]; rfl,h⟩
 | buildSt zero parts =>
  obtain ⟨cs,e,h⟩:=zsj h
  exact ⟨_,by simp only [zj,xr,e]; rfl,h⟩
 | box p x =>
  simp only [zbH] at h
  split at h
  ·rename_i cs hx
   cases p with
   | true=>cases h
   | false =>
    obtain ⟨σ',e,h⟩:=zet h
    exact ⟨σ',by simp only [zj,hx,Bool.false_eq_true,if_false]; exact e,h⟩
  ·rename_i hx
   split at h
   ·rename_i v hv
    have hk:∀ p,zj cb nb σ dst pin (.box p x)=σ.newB nb dst (.live p v.cells) (fun id=>.ptr id 0):=by
     intro p
     cases hxx:x.get σ with
     | st cs=>exact absurd hxx (hx cs)
     | _=>rw [hxx] at hv; simp only [zj,hxx,hv]
    cases p with
    | true =>
     obtain ⟨σ',e,h⟩:=zet h
     exact ⟨σ',by rw [hk]; exact e,h⟩
    | false =>
     obtain ⟨σ',e,h⟩:=zet (zqL h)
     exact ⟨σ',by rw [hk]; exact e,h⟩
   ·cases h
 | nilT neg x =>
  simp only [zbH] at h
  split at h
  ·rename_i sz es hx
   split at h
   ·rename_i t
    rcases zhB h with ⟨hq,h⟩ | ⟨hq,h⟩
    ·have he:es=[]:=by simpa using hq
     subst he
     have hget:∃ v,σ.t[t]?=some v∧Src.get σ (.tmp t)=v∧zFd v=v:=by
      simp only [Src.get,List.getD_eq_getElem?_getD] at hx ⊢
      cases ht:σ.t[t]? with
      | none=>rw [ht] at hx; simp [V.dem] at hx
      | some v =>
       rw [ht] at hx
       refine ⟨v,rfl,rfl,?_⟩
       have hx:v.dem=.sl sz []:=hx
       match v,hx with
       | .gs a es,hx =>
        have:es=[]:=by simp [V.dem] at hx; exact hx.2
        rw [this]; rfl
       | .sl a es,hx =>
        have:es=[]:=by simp [V.dem] at hx; exact hx.2
        rw [this]; rfl
       | .tup [],hx=>rfl
       | .tup (_::_),hx=>rfl
       | .sc _,hx=>rfl
       | .agg _,hx=>rfl
       | .own _ _ _ _,hx=>rfl
       | .ptr _ _,hx=>rfl
       | .fp _ _,hx=>rfl
       | .fn _ _,hx=>rfl
       | .bx _ _,hx=>rfl
       | .fr _ _,hx=>rfl
       | .ub,hx=>rfl
       | .junk,hx=>rfl
     obtain ⟨v,g1,g2,g3⟩:=hget
     simp only [lt] at h
     rw [g2,g3,St.set_same g1] at h
     exact ⟨_,by simp only [zj,xr,hx]; rfl,h⟩
    ·exact ⟨_,by simp only [zj,xr,hx,hq]; rfl,h⟩
   ·cases h
  ·cases h
 | un op x =>
  simp only [zbH] at h
  split at h
  ·rename_i a ha
   split at h
   ·rename_i z hz
    exact ⟨_,by simp only [zj,xr,ha,hz]; rfl,zB8 h⟩
   ·cases h
  ·cases h
 | conv k x =>
  obtain ⟨kd,n,e,h⟩:=zih h
  exact ⟨_,by simp only [zj,xr,e,V.int?]; rfl,h⟩
 | mm isMax x y =>
  simp only [zbH] at h
  split at h
  ·rename_i k a k' b ha hb
   exact ⟨_,by simp only [zj,xr,ha,hb]; rfl,h⟩
  ·cases h
 | copy sz d s =>
  simp only [zbH] at h
  split at h
  ·rename_i id off len sz1 hd
   obtain ⟨u,e,h⟩:=zgV h
   split at h
   ·rename_i sz2 es
    split at h
    ·rename_i cs hb
     obtain ⟨hc,h⟩:=yB h
     exact ⟨_,by simp only [zj,hd,e,hb]; rw [if_pos hc],h⟩
    ·cases h
   ·cases h
  ·cases h
 | buildSlice sz n zero parts =>
  obtain ⟨cs,e,h⟩:=zul h
  split at h
  ·rename_i hc
   exact ⟨_,by simp only [zj,e,Option.bind_eq_bind,Option.bind_some]; rw [if_pos (of_decide_eq_true hc)],h⟩
  ·rename_i hc
   obtain ⟨σ',e2,h⟩:=zet h
   exact ⟨σ',by simp only [zj,e,Option.bind_eq_bind,Option.bind_some]; rw [if_neg (of_decide_eq_false hc)]; exact e2,h⟩
 | bin op x y =>
  simp only [zbH] at h
  split at h
  ·rename_i a b ha hb
   obtain ⟨z,e,h⟩:=zEL h
   exact ⟨_,by simp only [zj,xr,ha,hb,e]; rfl,zB8 h⟩
  ·cases h
 | eqAgg neg n x y =>
  simp only [zbH] at h
  split at h
  ·rename_i a b ha hb
   obtain ⟨hl,t,e,h⟩:=zFy h
   exact ⟨_,by simp only [zj,xr,ha,hb,hl,and_self,if_true,e]; rfl,h⟩
  ·cases h
 | toStr x =>
  obtain ⟨u,e,h⟩:=zgV h
  split at h
  ·obtain ⟨l,e2,h⟩:=zEz h
   exact ⟨_,by simp only [zj,xr,e,e2]; rfl,h⟩
  ·cases h
 | see x =>
  simp only [zbH] at h
  split at h
  ·rename_i id off len sz hx
   split at h
   ·rename_i cs hb; exact ⟨_,by simp only [zj,xr,hx,hb]; rfl,h⟩
   ·rename_i hb
    obtain ⟨h0,h⟩:=yB h
    exact ⟨_,by simp only [zj,xr,hx,hb,h0,if_true]; rfl,h⟩
   ·cases h
  ·cases h
 | cmpB x y =>
  obtain ⟨u,e,h⟩:=zgV h
  obtain ⟨v,e',h⟩:=zgV h
  split at h
  ·unfold zGf at h
   split at h
   ·rename_i a ha
    split at h
    ·rename_i b hb
     exact ⟨_,by simp only [zj,xr,e,e',ha,hb]; rfl,h⟩
    ·cases h
   ·cases h
  ·cases h
 | makeSlice sz bytes zero l c =>
  obtain ⟨k1,l',e1,h⟩:=zih h
  obtain ⟨k2,c',e2,h⟩:=zih h
  cases pin with
  | true =>
   obtain ⟨hc,h⟩:=yB h
   obtain ⟨σ',e3,h⟩:=zet h
   exact ⟨σ',by simp only [zj,e1,e2,V.int?]; rw [if_pos hc,if_pos trivial]; exact e3,h⟩
  | false =>
   obtain ⟨hc,h⟩:=yB h
   obtain ⟨σ',e3,h⟩:=zet h
   exact ⟨σ',by simp only [zj,e1,e2,V.int?]; rw [if_pos hc]; simpa using e3,h⟩
 | sliceA n sz x lo hi mx =>
  obtain ⟨l,hh,m,e,h⟩:=zkk h
  split at h
  ·rename_i id off hx
   split at h
   ·rename_i p cs hb
    obtain ⟨hl,h⟩:=yB h
    refine ⟨_,by simp only [zj,xr,e,Option.bind_eq_bind,Option.bind_some,hx,hb,hl,if_true,Option.map_some]; rfl,?_⟩
    rcases zhB h with ⟨q,h⟩ | ⟨q,h⟩
    ·rw [if_pos (by simpa using q)]; exact h
    ·rw [if_neg (by simpa using q)]; exact h
   ·rename_i cs hb
    obtain ⟨hl,h⟩:=yB h
    refine ⟨_,by simp only [zj,xr,e,Option.bind_eq_bind,Option.bind_some,hx,hb,hl,if_true,Option.map_some]; rfl,?_⟩
    rcases zhB h with ⟨q,h⟩ | ⟨q,h⟩
    ·rw [if_pos (by simpa using q)]; exact h
    ·rw [if_neg (by simpa using q)]; exact h
   ·cases h
  ·rename_i q cs hx
   obtain ⟨hl,h⟩:=yB h
   exact ⟨_,by simp only [zj,xr,e,Option.bind_eq_bind,Option.bind_some,hx,hl,if_true,Option.map_some],h⟩
  ·cases h
 | sliceS sz x lo hi mx =>
  simp only [zbH] at h
  split at h
  ·rename_i sz' es hx
   obtain ⟨l,hh,m,e,h⟩:=zkk h
   obtain ⟨hs,h⟩:=yB h
   cases mx with
   | none=>exact ⟨σ.put dst (.sl sz ((es.drop l).take (hh - l))),by simp [zj,xr,e,hx,hs],h⟩
   | some s =>
    refine ⟨_,by simp only [zj,xr,e,hx,hs,Option.bind_eq_bind,Option.bind_some,if_true,Option.map_some]; rfl,?_⟩
    rcases zhB h with ⟨q,h⟩ | ⟨q,h⟩
    ·rw [if_pos ⟨by simp,by simpa using q⟩]; rw [← hs]; exact h
    ·rw [if_neg (by simpa using q)]; rw [← hs]; exact h
  ·rename_i id off len sz' hx
   obtain ⟨l,hh,m,e,h⟩:=zkk h
   obtain ⟨hs,h2⟩:=yB h
   subst hs
   cases mx with
   | none=>exact ⟨_,by simp only [zj,xr,e,hx,Option.bind_eq_bind,Option.bind_some,if_true,Option.map_some,Option.isSome_none,Bool.false_eq_true,if_false],h2⟩
   | some s =>
    refine ⟨_,by simp only [zj,xr,e,hx,Option.bind_eq_bind,Option.bind_some,if_true,Option.map_some,Option.isSome_some]; rfl,?_⟩
    rcases zhB h2 with ⟨q,h⟩ | ⟨q,h⟩
    ·rw [if_pos (by simpa using q)]; exact h
    ·rw [if_neg (by simpa using q)]; exact h
  ·rename_i id off len cap sz' hx
   cases hi with
   | none=>cases h
   | some s0 =>
    cases mx with
    | some _=>cases h
    | none =>
     obtain ⟨l,hh,m,e,h⟩:=zkk h
     obtain ⟨hs,h2⟩:=yB h
     subst hs
     exact ⟨_,by simp only [zj,xr,e,hx,Option.bind_eq_bind,Option.bind_some,if_true,Option.map_some,Option.isSome_some,Option.isNone_none,and_self],h2⟩
  ·cases h
 | sliceC sz x hi =>
  simp only [zbH] at h
  split at h
  ·rename_i id off len sz' hx
   cases hi with
   | none=>cases h
   | some s0 =>
    obtain ⟨l,hh,m,e,h⟩:=zkk h
    obtain ⟨hs,h2⟩:=yB h
    subst hs
    exact ⟨_,by simp only [zj,xr,e,hx,Option.bind_eq_bind,Option.bind_some,if_true,Option.map_some,Option.isSome_some,and_self],h2⟩
  ·cases h
 | field agg o n x =>
  simp only [zbH] at h
  split at h
  ·rename_i cs hx
   cases agg with
   | true=>exact ⟨_,by simp [zj,xr,hx],h⟩
   | false =>
    obtain ⟨v,e,h⟩:=zqw h
    exact ⟨_,by simp [zj,xr,hx,e],h⟩
  ·rename_i cs hx
   cases agg with
   | true=>cases h
   | false =>
    simp only at h
    split at h
    ·rename_i v e
     exact ⟨_,by simp [zj,xr,hx,e],h⟩
    ·cases h
  ·cases h
 | indexAddrA len sz x i =>
  obtain ⟨k1,j,e1,h⟩:=zih h
  obtain ⟨hj,h⟩:=yB h
  split at h
  ·rename_i id off hx
   exact ⟨_,by simp [zj,xr,hx,e1,V.int?,hj],h⟩
  ·rename_i q cs hx
   obtain ⟨hl,h⟩:=yB h
   exact ⟨_,by simp [zj,xr,hx,e1,V.int?,hj,hl],h⟩
  ·cases h
 | indexAddrS sz x i =>
  obtain ⟨k1,j,e1,h⟩:=zih h
  split at h
  ·rename_i sz' es hx
   obtain ⟨hs,h2⟩:=yB h
   obtain ⟨hj,cc,e,h3⟩:=zFG h2
   subst hs
   exact ⟨_,by simp [zj,xr,hx,e1,V.int?,hj,e],h3⟩
  ·rename_i id off len sz' hx
   obtain ⟨hs,h2⟩:=yB h
   obtain ⟨hj,h3⟩:=yB h2
   subst hs
   exact ⟨_,by simp [zj,xr,hx,e1,V.int?,hj],h3⟩
  ·cases h
 | arrP n sz x =>
  simp only [zbH] at h
  split at h
  ·rename_i sz' es hx
   obtain ⟨hs,h2⟩:=yB h
   obtain ⟨hp,h3⟩:=yB h2
   obtain ⟨hl,h4⟩:=yB h3
   subst hs
   exact ⟨_,by simp [zj,xr,hx,hp,hl],h4⟩
  ·rename_i id off len sz' hx
   obtain ⟨hs,h2⟩:=yB h
   obtain ⟨hp,h3⟩:=yB h2
   obtain ⟨hl,h4⟩:=yB h3
   subst hs
   exact ⟨_,by simp [zj,xr,hx,hp,hl],h4⟩
  ·cases h
 | indexA agg len sz x i =>
  obtain ⟨k1,j,e1,h⟩:=zih h
  obtain ⟨hj,h⟩:=yB h
  split at h
  ·rename_i cs hx
   cases agg with
   | true=>exact ⟨_,by simp [zj,xr,hx,e1,V.int?,hj],h⟩
   | false =>
    obtain ⟨v,e,h⟩:=zqw h
    exact ⟨_,by simp [zj,xr,hx,e1,V.int?,hj,e],h⟩
  ·cases h
 | load agg n a take =>
  simp only [zbH] at h
  split at h
  ·rename_i id off hx
   split at h
   ·rename_i p cs hb
    cases agg with
    | true =>
     obtain ⟨hl,h⟩:=yB h
     cases p with
     | true=>exact ⟨_,by simp [zj,hx,hb,hl],h⟩
     | false =>
      cases take with
      | true =>
       obtain ⟨vs,e,h⟩:=zDG h
       exact ⟨_,by simp [zj,hx,hb,hl,e],h⟩
      | false =>
       obtain ⟨vs,e,h⟩:=zrg h
       exact ⟨_,by simp [zj,hx,hb,hl,e],h⟩
    | false =>
     cases take with
     | true =>
      cases p with
      | true=>cases h
      | false =>
       obtain ⟨v,e,h⟩:=zlj h
       exact ⟨_,by simp [zj,hx,hb,e],h⟩
     | false =>
      obtain ⟨v,e,h⟩:=zCU h
      exact ⟨_,by simp [zj,hx,hb,e],h⟩
   ·rename_i cs hb
    cases agg with
    | true =>
     obtain ⟨hl,h⟩:=yB h
     exact ⟨_,by simp [zj,hx,hb,hl],h⟩
    | false =>
     obtain ⟨v,e,h⟩:=zqw h
     exact ⟨_,by simp [zj,hx,hb,e],h⟩
   ·cases h
  ·rename_i q cs hx
   cases agg with
   | true =>
    obtain ⟨hl,h⟩:=yB h
    exact ⟨_,by simp [zj,hx,hl],h⟩
   | false =>
    obtain ⟨v,e,h⟩:=zqw h
    exact ⟨_,by simp [zj,hx,e],h⟩
  ·cases h
 | store n a x =>
  cases dst with
  | some d=>cases h
  | none =>
  simp only [zbH] at h
  split at h
  ·rename_i id off hx
   split at h
   ·rename_i cs hb
    split at h
    ·rename_i v hv
     obtain ⟨hl,h⟩:=yB h
     exact ⟨_,by simp [zj,hx,hb,hv,hl],h⟩
    ·cases h
   ·rename_i cs hb
    cases hxv:x.get σ <;> simp only [hxv] at h
    case agg us =>
     obtain ⟨hl,h⟩:=yB (zqL h)
     exact ⟨_,by simp [zj,hx,hb,hxv,hl],h⟩
    case st us =>
     obtain ⟨hl,h⟩:=yB h
     exact ⟨_,by simp [zj,hx,hb,hxv,hl],h⟩
    case tup=>cases h
    case bx=>cases h
    case fr=>cases h
    case junk=>cases h
    all_goals
     obtain ⟨hl,h⟩:=yB h
     exact ⟨_,by simp [zj,hx,hb,hxv,hl],h⟩
   ·cases h
  ·cases h
 | append sz bytes s x =>
  simp only [zbH] at h
  split at h
  ·rename_i sz1 es hs
   obtain ⟨u,e,h⟩:=zgV h
   split at h
   ·rename_i sz2 es2
    obtain ⟨⟨h1,h2⟩,h⟩:=yB h
    obtain ⟨h3,h⟩:=yB h
    cases pin with
    | true =>
     simp only at h
     split at h
     ·obtain ⟨σ',e3,h⟩:=zet h
      refine ⟨σ',?_,h⟩
      simp only [zj,hs,e]
      rw [if_pos ⟨h1,.inl h2,h3⟩]
      exact e3
     ·cases h
    | false =>
     refine ⟨_,?_,h⟩
     simp only [zj,hs,e]
     rw [if_pos ⟨h1,.inl h2,h3⟩]
     rfl
   ·cases h
  ·rename_i sz1 hs
   obtain ⟨u,e,h⟩:=zgV h
   split at h
   ·rename_i sz2 es2
    obtain ⟨⟨h1,h2⟩,h⟩:=yB h
    obtain ⟨h3,h⟩:=yB h
    obtain ⟨σ',e3,h⟩:=zet h
    refine ⟨σ',?_,h⟩
    simp only [zj,hs,e]
    rw [if_pos ⟨h1,.inl h2,h3⟩]
    exact e3
   ·cases h
  ·rename_i id off len sz1 hs
   obtain ⟨u,e,h⟩:=zgV h
   split at h
   ·rename_i sz2 es2
    split at h
    ·rename_i cs hb
     obtain ⟨⟨h1,h2,h0⟩,h⟩:=yB h
     obtain ⟨h3,h⟩:=yB h
     obtain ⟨σ',e3,h⟩:=zet h
     refine ⟨σ',?_,h⟩
     simp only [zj,hs,e,hb]
     rw [if_pos ⟨h1,.inl h2,h0,h3⟩]
     exact e3
    ·cases h
   ·cases h
  ·rename_i id off len cap sz1 hs
   obtain ⟨u,e,h⟩:=zgV h
   split at h
   ·rename_i sz2 es2
    split at h
    ·rename_i cs hb
     split at h
     ·obtain ⟨⟨h1,h2,h0⟩,h⟩:=yB h
      obtain ⟨h3,h⟩:=yB h
      refine ⟨_,?_,h⟩
      simp only [zj,hs,e,hb]
      rw [if_pos ⟨h1,.inl h2,h0,h3,trivial⟩]
     ·cases h
    ·cases h
   ·cases h
  ·cases h
 | unpin x =>
  cases pin with
  | true=>simp only [zbH] at h; cases h
  | false =>
   simp only [zbH] at h
   split at h
   ·rename_i id off len sz hx
    split at h
    ·rename_i cs hb
     obtain ⟨h1,h2⟩:=yB h
     exact ⟨_,by simp only [zj,hx,hb]; rw [if_neg (by simp),if_pos h1],h2⟩
    ·cases h
   ·rename_i sz es hx
    exact ⟨_,by simp only [zj,hx]; rw [if_neg (by simp)],h⟩
   ·cases h
 | clear sz zero x =>
  simp only [zbH] at h
  split at h
  ·rename_i id off len sz1 hx
   split at h
   ·rename_i cs hb
    obtain ⟨h1,h⟩:=yB h
    exact ⟨_,by simp only [zj,hx,hb,h1,if_true],h⟩
   ·cases h
  ·cases h
 | appendZ sz bytes zero s x =>
  simp only [zbH] at h
  split at h
  ·rename_i sz1 es hs
   obtain ⟨kd,n,e,h⟩:=zih h
   obtain ⟨h1,h⟩:=yB h
   obtain ⟨h2,h⟩:=yB h
   cases pin with
   | true=>cases h
   | false =>
    refine ⟨_,?_,h⟩
    simp only [zj,hs,e,V.int?]
    rw [if_pos ⟨h1,h2⟩]
    rfl
  ·cases h
 | extract x i =>
  simp only [zbH] at h
  split at h
  ·rename_i vs hx
   split at h
   ·rename_i v t hvi
    split at h
    ·rename_i hall
     simp only [Bool.and_eq_true,decide_eq_true_eq] at hall
     split at h
     ·rename_i hh
      obtain ⟨σ',e,h⟩:=zAX h
      refine ⟨σ',?_,h⟩
      simp only [zj,hx,hvi]
      rw [if_pos hall,if_pos hh]
      exact e
     ·rename_i hh
      split at h
      ·cases h
      ·refine ⟨_,?_,h⟩
       simp only [zj,hx,hvi]
       rw [if_pos hall,if_neg (by simp [hh])]
       rfl
    ·cases h
   ·cases h
  ·cases h
 | call f args xs =>
  simp only [zbH] at h
  split at h
  ·rename_i vs e
   obtain ⟨σ',e2,h⟩:=zxY hc h
   exact ⟨σ',by simp only [zj,e]; exact e2,h⟩
  ·cases h
 | callv f args xs =>
  simp only [zbH] at h
  split at h
  ·rename_i g caps hg
   split at h
   ·rename_i vs e
    obtain ⟨σ',e2,h⟩:=zxY hc h
    exact ⟨σ',by simp only [zj,hg,e]; exact e2,h⟩
   ·cases h
  ·cases h
 | mlook kd ok zero x y =>
  simp only [zbH] at h
  split at h
  ·rename_i id hx
   split at h
   ·rename_i es hes
    unfold mAt at h
    split at h
    ·rename_i hko
     split at h
     ·rename_i q hq
      have h:=zyr h
      cases ok with
      | true=>exact ⟨_,by simp only [zj,hx,hes,hko,if_true,hq,Option.bind_eq_bind,Option.bind_some,Option.pure_def],h⟩
      | false=>exact ⟨_,by simp only [zj,hx,hes,hko,if_true,hq,Option.bind_eq_bind,Option.bind_some,Option.pure_def,Bool.false_eq_true,if_false],h⟩
     ·cases h
    ·cases h
   ·cases h
  ·cases h
 | mput kd x y z =>
  simp only [zbH] at h
  split at h
  ·cases h
  ·split at h
   ·rename_i id hx
    split at h
    ·rename_i es hes
     split at h
     ·rename_i v hv
      unfold zGv at h
      split at h
      ·rename_i hko
       split at h
       ·rename_i q hq
        refine ⟨_,?_,h⟩
        simp only [zj,Option.isSome_none,Bool.false_eq_true,if_false,hx,hes,hko,if_true,hv,hq,Option.bind_eq_bind,Option.bind_some,Option.pure_def]
       ·cases h
      ·cases h
     ·cases h
    ·cases h
   ·cases h
 | _=>exact zFm rfl h
theorem zwP (hc:zlE c cb) {σ:St} {o:COp} {κ:St→St→Option β} (h:zuK sh c nb σ o κ=some r):∃ σ',xx cb nb σ o=some σ'∧κ σ σ'=some r:=by
 unfold zuK at h
 split at h
 ·rename_i hg
  obtain ⟨σ',e,h⟩:=zvX hc h
  exact ⟨σ',by simp only [xx,hg,zaZ]; exact e,h⟩
 ·rename_i j want hg
  split at h
  ·rename_i b hj
   cases want with
   | true =>
    rcases zhB h with ⟨rfl,h⟩ | ⟨rfl,h⟩
    ·simp only [lt] at h
     rw [St.set_same hj] at h
     obtain ⟨σ',e,h⟩:=zvX hc h
     exact ⟨σ',by simp only [xx,hg,zaZ,hj]; exact e,h⟩
    ·simp only [lt] at h
     rw [St.set_same hj] at h
     exact ⟨_,by simp only [xx,hg,zaZ,hj]; rfl,h⟩
   | false =>
    rcases zhB h with ⟨rfl,h⟩ | ⟨rfl,h⟩
    ·simp only [lt] at h
     rw [St.set_same hj] at h
     exact ⟨_,by simp only [xx,hg,zaZ,hj]; rfl,h⟩
    ·simp only [lt] at h
     rw [St.set_same hj] at h
     obtain ⟨σ',e,h⟩:=zvX hc h
     exact ⟨σ',by simp only [xx,hg,zaZ,hj]; exact e,h⟩
  ·rename_i hj
   exact ⟨_,by simp only [xx,hg,zaZ,hj],h⟩
  ·cases h
theorem zvC (hc:zlE c cb):∀ {ops:List COp} {σ:St} {κ:St→Option β},zv3 sh c nb ops σ κ=some r→∃ σ',zgx cb nb ops σ=some σ'∧κ σ'=some r
 | [],σ,κ,h=>⟨σ,rfl,h⟩
 | o::ops,σ,κ,h=>by
  obtain ⟨σ1,e1,h⟩:=zwP hc h
  obtain ⟨σ2,e2,h⟩:=zvC hc h
  exact ⟨σ2,by simp only [zgx,e1,Option.bind_some]; exact e2,h⟩
theorem zyQ (hc:zlE c cb):∀ {ops:List (COp × Fl)} {σ:St} {κ:St→Option β},zBd sh c nb ops σ κ=some r→∃ σ',zkB cb nb ops σ=some σ'∧κ σ'=some r
 | [],σ,κ,h=>⟨σ,rfl,h⟩
 | (o,q)::ops,σ,κ,h=>by
  obtain ⟨σ1,e1,h⟩:=zwP hc h
  split at h
  ·rename_i hq
   obtain ⟨σ2,e2,h⟩:=zyQ hc h
   exact ⟨σ2,by simp only [zkB,e1,hq,if_true]; exact e2,h⟩
  ·cases h
theorem zAL {body:St→KT β→Option β} {bodyN:St→Option (Ex × St)} {norm:St→St} (hb:∀ σ K,body σ K=some r→∃ ex σ',bodyN σ=some (ex,σ')∧K ex σ'=some r):∀ (n:Nat) (σ:St) (K:KT β),zz body norm n (norm σ) K=some r→∃ ex σ',zl1 bodyN norm n σ=some (ex,σ')∧K ex σ'=some r
 | 0,σ,K,h=>by cases h
 | n+1,σ,K,h=>by
  obtain ⟨ex,σ1,e,h⟩:=hb _ _ h
  cases ex with
  | normal =>
   obtain ⟨ex,σ2,e2,h⟩:=zAL hb n σ1 K h
   exact ⟨ex,σ2,by simp only [zl1,e]; exact e2,h⟩
  | exit j=>exact ⟨_,_,by simp only [zl1,e],h⟩
  | ret=>exact ⟨_,_,by simp only [zl1,e],h⟩
theorem zES {σ σ':St} {dst:Option Nat} {pin:Bool} {k:K} (h:zj (fun _ _ _=>none) nb σ dst pin k=some σ'):zj cb nb σ dst pin k=some σ':=by
 cases k with
 | call f args xs =>
  simp only [zj,zdv,Option.bind_eq_bind,Option.bind_eq_some_iff,Prod.exists] at h
  obtain ⟨_,_,_,_,_,_,h,_⟩:=h
  cases h
 | callv f args xs =>
  simp only [zj] at h
  split at h
  ·simp only [zdv,Option.bind_eq_bind,Option.bind_eq_some_iff,Prod.exists] at h
   obtain ⟨_,_,_,_,_,_,h,_⟩:=h
   cases h
  ·cases h
 | _=>exact h
theorem zyU {σ σ':St} {o:COp} (h:xx (fun _ _ _=>none) nb σ o=some σ'):xx cb nb σ o=some σ':=by
 unfold xx at h ⊢
 split at h
 ·exact zES h
 ·exact h
 ·cases h
theorem zxv:∀ {ops:List COp} {σ σ':St},zgx (fun _ _ _=>none) nb ops σ=some σ'→zgx cb nb ops σ=some σ'
 | [],σ,σ',h=>h
 | o::ops,σ,σ',h=>by
  simp only [zgx,Option.bind_eq_some_iff] at h ⊢
  obtain ⟨σ1,h1,h2⟩:=h
  exact ⟨σ1,zyU h1,zxv h2⟩
theorem zA0:∀ {ops:List (COp × Fl)} {σ σ':St},zkB (fun _ _ _=>none) nb ops σ=some σ'→zkB cb nb ops σ=some σ'
 | [],σ,σ',h=>h
 | (o,q)::ops,σ,σ',h=>by
  simp only [zkB] at h ⊢
  split at h
  ·rename_i σ1 h1
   rw [zyU h1]
   split at h
   ·rename_i hq
    simp only [hq,if_true]
    exact zA0 h
   ·cases h
  ·cases h
theorem zxP:∀ (cc:CC) (σ:St) (r:Ex × St),run (fun _ _ _=>none) nb L cc σ=some r→run cb nb L cc σ=some r:=by
 intro cc
 induction cc with
 | skip=>intro σ r h; exact h
 | reg ops =>
  intro σ r h
  simp only [run,Option.map_eq_some_iff] at h ⊢
  obtain ⟨σ1,h1,h2⟩:=h
  exact ⟨σ1,zxv h1,h2⟩
 | dreg fz ops =>
  intro σ r h
  simp only [run,Option.map_eq_some_iff] at h ⊢
  obtain ⟨σ1,h1,h2⟩:=h
  exact ⟨σ1,zA0 h1,h2⟩
 | seq a b iha ihb =>
  intro σ r h
  simp only [run] at h ⊢
  split at h
  ·rename_i σ1 h1
   rw [iha _ _ h1]
   exact ihb _ _ h
  ·rename_i hne
   obtain ⟨ex,σ1⟩:=r
   rw [iha _ _ h]
   cases ex with
   | normal=>exact absurd h (hne _)
   | exit j=>rfl
   | ret=>rfl
 | fork p s a b ihp iha ihb =>
  intro σ r h
  simp only [run] at h ⊢
  split at h
  ·rename_i σ1 h1
   rw [ihp _ _ h1]
   simp only
   split at h
   ·split at h
    ·rename_i hs
     obtain ⟨e,_⟩:=zwp hs
     rw [iha _ _ (e.trans h),ihb _ _ h]
     rw [e,h] at hs
     simp only [hs,if_true]
    ·cases h
   ·split at h
    ·split at h
     ·rename_i σ2 h2
      rw [iha _ _ h2]
      exact ihb _ _ h
     ·rename_i hne
      obtain ⟨ex,σ2⟩:=r
      rw [iha _ _ h]
      cases ex with
      | normal=>exact absurd h (hne _)
      | exit j=>rfl
      | ret=>rfl
    ·exact ihb _ _ h
    ·cases h
  ·rename_i hne
   obtain ⟨ex,σ1⟩:=r
   rw [ihp _ _ h]
   cases ex with
   | normal=>exact absurd h (hne _)
   | exit j=>rfl
   | ret=>rfl
 | cond s a b iha ihb =>
  intro σ r h
  simp only [run] at h ⊢
  split at h
  ·split at h
   ·rename_i hs
    have e:=zsG hs
    rw [iha _ _ (e.trans h),ihb _ _ h]
    rw [e,h] at hs
    simp only [hs,if_true]
   ·cases h
  ·rename_i hne
   split at h
   ·rename_i t ht
    cases t with
    | true=>simp only [if_true] at h ⊢; exact iha _ _ h
    | false=>simp only [Bool.false_eq_true,if_false] at h ⊢; exact ihb _ _ h
   ·cases h
 | block id a ih =>
  intro σ r h
  simp only [run] at h ⊢
  cases ha:run (fun _ _ _=>none) nb L a σ with
  | none=>rw [ha] at h; cases h
  | some q=>rw [ha] at h; rw [ih _ _ ha]; exact h
 | loop kt kb a ih =>
  intro σ r h
  simp only [run] at h ⊢
  have key:∀ (n:Nat) (σ:St),zl1 (run (fun _ _ _=>none) nb L a) (zZ nb kt kb) n σ=some r→zl1 (run cb nb L a) (zZ nb kt kb) n σ=some r:=by
   intro n
   induction n with
   | zero=>intro σ h; cases h
   | succ n ihn =>
    intro σ h
    simp only [zl1] at h ⊢
    cases ha:run (fun _ _ _=>none) nb L a (zZ nb kt kb σ) with
    | none=>rw [ha] at h; cases h
    | some q =>
     obtain ⟨ex,σ1⟩:=q
     rw [ha] at h
     rw [ih _ _ ha]
     cases ex with
     | normal=>exact ihn _ h
     | exit j=>exact h
     | ret=>exact h
  exact key L σ h
 | mask kt kb=>intro σ r h; exact h
 | exit id=>intro σ r h; exact h
 | ret=>intro σ r h; exact h
theorem zFI (hc:zlE c cb):∀ (cc:CC) (σ:St) (K:KT β),xk sh c nb L cc σ K=some r→∃ ex σ',run cb nb L cc σ=some (ex,σ')∧K ex σ'=some r:=by
 intro cc
 induction cc with
 | skip=>intro σ K h; exact ⟨_,_,rfl,h⟩
 | reg ops =>
  intro σ K h
  obtain ⟨σ',e,h⟩:=zvC hc h
  exact ⟨_,σ',by simp only [run,e]; rfl,h⟩
 | dreg fz ops =>
  intro σ K h
  obtain ⟨σ',e,h⟩:=zyQ hc (zoK nb fz σ _ h)
  exact ⟨_,σ',by simp only [run,e]; rfl,h⟩
 | seq a b iha ihb =>
  intro σ K h
  obtain ⟨ex,σ1,e,h⟩:=iha _ _ h
  cases ex with
  | normal =>
   obtain ⟨ex,σ2,e2,h⟩:=ihb _ _ h
   exact ⟨ex,σ2,by simp only [run,e]; exact e2,h⟩
  | exit j=>exact ⟨_,_,by simp only [run,e],h⟩
  | ret=>exact ⟨_,_,by simp only [run,e],h⟩
 | fork p s a b ihp iha ihb =>
  intro σ K h
  obtain ⟨ex,σ1,e,h⟩:=ihp _ _ h
  cases ex with
  | exit j=>exact ⟨_,_,by simp only [run,e],h⟩
  | ret=>exact ⟨_,_,by simp only [run,e],h⟩
  | normal =>
   simp only [xO] at h
   split at h
   ·rename_i hub
    split at h
    ·rename_i hsame
     unfold onR at h
     split at h
     ·rename_i ex σ2 e1
      obtain ⟨e0,_⟩:=zwp hsame
      have ra:=zxP (cb:=cb) _ _ _ (e0.trans e1)
      have rb:=zxP (cb:=cb) _ _ _ e1
      rw [e0,e1] at hsame
      refine ⟨ex,σ2,?_,h⟩
      simp only [run,e,hub,ra,rb,hsame,if_true]
     ·cases h
    ·cases h
   ·rename_i hne
    obtain ⟨t,et,h⟩:=ztx h
    rcases zhB h with ⟨rfl,h⟩ | ⟨rfl,h⟩
    ·obtain ⟨ex,σ2,e1,h⟩:=iha _ _ h
     cases ex with
     | normal =>
      obtain ⟨ex,σ3,e2,h⟩:=ihb _ _ h
      exact ⟨ex,σ3,by simp only [run,e,et,V.bool?,e1]; exact e2,h⟩
     | exit j=>exact ⟨_,_,by simp only [run,e,et,V.bool?,e1],h⟩
     | ret=>exact ⟨_,_,by simp only [run,e,et,V.bool?,e1],h⟩
    ·obtain ⟨ex,σ2,e1,h⟩:=ihb _ _ h
     exact ⟨ex,σ2,by simp only [run,e,et,V.bool?]; exact e1,h⟩
 | cond s a b iha ihb =>
  intro σ K h
  simp only [xk] at h
  split at h
  ·rename_i hub
   split at h
   ·rename_i hsame
    unfold onR at h
    split at h
    ·rename_i ex σ1 e1
     have e0:=zsG hsame
     have ra:=zxP (cb:=cb) _ _ _ (e0.trans e1)
     have rb:=zxP (cb:=cb) _ _ _ e1
     rw [e0,e1] at hsame
     refine ⟨ex,σ1,?_,h⟩
     simp only [run,hub,ra,rb,hsame,if_true]
    ·cases h
   ·cases h
  ·rename_i hne
   obtain ⟨t,e,h⟩:=ztx h
   rcases zhB h with ⟨rfl,h⟩ | ⟨rfl,h⟩
   ·obtain ⟨ex,σ1,e1,h⟩:=iha _ _ h
    exact ⟨ex,σ1,by simp only [run,e,V.bool?,if_true]; exact e1,h⟩
   ·obtain ⟨ex,σ1,e1,h⟩:=ihb _ _ h
    exact ⟨ex,σ1,by simp only [run,e,V.bool?,Bool.false_eq_true,if_false]; exact e1,h⟩
 | block id a ih =>
  intro σ K h
  obtain ⟨ex,σ1,e,h⟩:=ih _ _ h
  cases ex with
  | normal=>exact ⟨_,_,by simp only [run,e],h⟩
  | exit j =>
   simp only [yA] at h
   split at h
   ·rename_i hj
    have hj:=Nat.eq_of_beq_eq_true hj
    exact ⟨_,_,by simp only [run,e,hj,if_true],h⟩
   ·rename_i hj
    have:j≠id:=Nat.ne_of_beq_eq_false hj
    exact ⟨_,_,by simp only [run,e,this,if_false],h⟩
  | ret=>exact ⟨_,_,by simp only [run,e],h⟩
 | loop kt kb a ih =>
  intro σ K h
  obtain ⟨ex,σ',e,h⟩:=zAL ih L σ K h
  exact ⟨ex,σ',by simp only [run]; exact e,h⟩
 | mask kt kb=>intro σ K h; exact ⟨_,_,rfl,h⟩
 | exit id=>intro σ K h; exact ⟨_,_,rfl,h⟩
 | ret=>intro σ K h; exact ⟨_,_,rfl,h⟩
theorem zw9 {σ:St} {rv:RV} {k:V→Option β} (h:zo7 nb σ rv k=some r):∃ v,zaq nb σ rv=some v∧k v=some r:=by
 cases rv with
 | cellS t n p=>cases h
 | tmp t =>
  simp only [zo7] at h
  split at h
  ·rename_i id off len sz ht
   split at h
   ·rename_i hge
    have hge:=of_decide_eq_true hge
    split at h
    ·rename_i cs hb
     split at h
     ·rename_i hd
      have hd:=of_decide_eq_true hd
      obtain ⟨hl,h⟩:=yB h
      exact ⟨_,by simp only [zaq,ht]; rw [if_pos hge,if_pos hd]; simp only [hb]; rw [if_pos hl],h⟩
     ·cases h
    ·cases h
   ·rename_i hge
    have hge:=of_decide_eq_false hge
    exact ⟨_,by simp only [zaq,ht]; rw [if_neg hge],h⟩
  ·rename_i id off ht
   split at h
   ·rename_i p cs hb
    split at h
    ·rename_i hd
     have hd:=of_decide_eq_true hd
     obtain ⟨hl,h⟩:=yB h
     cases p with
     | true=>exact ⟨_,by simp only [zaq,ht]; rw [if_pos hd]; simp only [hb]; rw [if_pos hl]; rfl,h⟩
     | false =>
      obtain ⟨vs,e,h⟩:=zrg h
      exact ⟨_,by simp only [zaq,ht]; rw [if_pos hd]; simp only [hb]; rw [if_pos hl]; simp only [Bool.false_eq_true,if_false,e,Option.map_some],h⟩
    ·cases h
   ·cases h
  ·split at h
   ·exact ⟨_,‹_›,h⟩
   ·cases h
 | tmpP t =>
  simp only [zo7] at h
  split at h
  ·rename_i id off len sz ht
   split at h
   ·rename_i hge
    have hge:=of_decide_eq_true hge
    split at h
    ·rename_i cs hb
     exact ⟨_,by simp only [zaq,ht]; rw [if_pos hge]; simp only [hb],h⟩
    ·cases h
   ·cases h
  ·split at h
   ·exact ⟨_,‹_›,h⟩
   ·cases h
 | cell t agg n =>
  simp only [zo7] at h
  split at h
  ·rename_i id off ht
   split at h
   ·rename_i p cs hb
    cases agg with
    | true =>
     obtain ⟨hl,h⟩:=yB h
     cases p with
     | true=>exact ⟨_,by simp only [zaq,ht,hb,if_true]; rw [if_pos hl],h⟩
     | false =>
      obtain ⟨vs,e,h⟩:=zrg h
      exact ⟨_,by simp only [zaq,ht,hb,if_true]; rw [if_pos hl]; simp only [Bool.false_eq_true,if_false,e,Option.map_some],h⟩
    | false =>
     simp only at h
     split at h
     ·rename_i hd
      have hd:=of_decide_eq_true hd
      obtain ⟨v,e,h⟩:=zlj h
      split at h
      ·rename_i v' hv
       exact ⟨_,by simp only [zaq,ht,hb,Bool.false_eq_true,if_false,hd,and_self,if_true,e,Option.bind_some]; exact hv,h⟩
      ·cases h
     ·cases h
   ·cases h
  ·cases h
theorem zvF {σ:St}:∀ {rs:List RV} {k:List V→Option β},zwl nb σ rs k=some r→∃ vs,rs.mapM (zaq nb σ)=some vs∧k vs=some r
 | [],k,h=>⟨[],rfl,h⟩
 | x::rs,k,h=>by
  obtain ⟨v,e,h⟩:=zw9 h
  obtain ⟨vs,e2,h⟩:=zvF h
  exact ⟨v::vs,by simp [List.mapM_cons,e,e2],h⟩
theorem zBs {σ:St} {rs:List RV} {k:V→Option β} (h:zsP nb σ rs k=some r):∃ v,results nb σ rs=some v∧k v=some r:=by
 unfold zsP at h
 split at h
 ·rename_i hd
  split at h
  ·obtain ⟨v,e,h⟩:=zw9 h
   exact ⟨v,by simp only [results,hd,if_true]; exact e,h⟩
  ·rename_i hne
   obtain ⟨vs,e,h⟩:=zvF h
   refine ⟨.tup vs,?_,h⟩
   simp only [results,hd,if_true,e,Option.map_some]
 ·cases h
theorem zrv {b:List B} {ids:List Nat}:∀ {l:List Nat} {k:Bor→Option β},zuz b nb ids l k=some r→∃ bor,znx b nb ids l=some bor∧k bor=some r
 | [],k,h=>⟨[],rfl,h⟩
 | id::l,k,h=>by
  simp only [zuz] at h
  split at h
  ·rename_i p cs hb
   cases p with
   | true =>
    obtain ⟨bor,e,h⟩:=zrv (l:=l) h
    exact ⟨_,by simp only [znx,hb,B.lend,B.isRow,Bool.true_or,Bool.or_true,Bool.and_self,if_true,e,Option.map_some,B.ren],h⟩
   | false =>
    simp only at h
    split at h
    ·rename_i hd
     obtain ⟨hl,h⟩:=yB h
     obtain ⟨bor,e,h⟩:=zrv (l:=l) h
     exact ⟨_,by simp only [znx,hb,B.lend,Bool.false_or,hl,hd,Bool.true_or,Bool.and_self,if_true,e,Option.map_some,B.ren,Bool.false_eq_true,if_false],h⟩
    ·cases h
  ·rename_i es hb
   split at h
   ·rename_i hd
    obtain ⟨bor,e,h⟩:=zrv (l:=l) h
    exact ⟨_,by simp only [znx,hb,B.lend,hd,Bool.true_or,Bool.and_self,if_true,e,Option.map_some,B.ren],h⟩
   ·cases h
  ·rename_i n hb
   split at h
   ·rename_i hd
    obtain ⟨bor,e,h⟩:=zrv (l:=l) h
    exact ⟨_,by simp only [znx,hb,B.lend,hd,Bool.true_or,Bool.and_self,if_true,e,Option.map_some,B.ren],h⟩
   ·cases h
  ·cases h
theorem zCh {σ:St} {rs:List RV} {k:V→Bor→Option β} (h:(match zh4 σ.t.length rs σ with
  | some (σ,rs)=>zsP nb σ rs fun v=>zuz σ.b nb (zex nb v) (zex nb v) fun b=>match zfg (zex nb v) with
   | true=>k (zlo (xM (zex nb v)) v) b
   | false=>none
  | none=>none)=some r):∃ v b,zrE nb σ rs=some (v,b)∧k v b=some r:=by
 split at h
 rotate_left
 ·cases h
 rename_i σ1 rs1 hu
 obtain ⟨v,e1,h⟩:=zBs h
 obtain ⟨b,e2,h⟩:=zrv h
 split at h
 ·rename_i hd
  refine ⟨_,b,?_,h⟩
  simp only [zrE,hu,zuD,e1,e2,Option.bind_eq_bind,Option.bind_some,hd,if_true,Option.pure_def]
 ·cases h
theorem zFD {T:Nat→Option CF} {pr:CB} {d:Nat} {f:Nat} (hc:zlE c (evF T pr L d)) {cf:CF} (hT:T f=some cf) {args:List V} {bor:Bor} {k:V→Bor→Option β} (h:zw sh c L cf args bor k=some r):∃ v b,evF T pr L (d+1) f args bor=some (v,b)∧k v b=some r:=by
 have h:zz5 sh c L cf args bor k=some r:=by
  unfold zw at h
  split at h
  ·rename_i sz es rest _
   cases es with
   | nil=>exact h
   | cons a l=>exact h
  ·exact h
 obtain ⟨ex,σ',e,h⟩:=zFI hc _ _ _ h
 cases ex with
 | exit j=>cases h
 | normal =>
  obtain ⟨v,b,e1,h⟩:=zCh h
  exact ⟨v,b,by simp only [evF,hT,e,e1],h⟩
 | ret =>
  obtain ⟨v,b,e1,h⟩:=zCh h
  exact ⟨v,b,by simp only [evF,hT,e,e1],h⟩
def FOk (T:Nat→Option CF) (L g:Nat) (d:∀ (β:Type),List V→Bor→(V→Bor→Option β)→Option β) (D:Nat):Prop:=∀ n,D≤n→∀ (β:Type) (args:List V) (bor:Bor) (k:V→Bor→Option β) (r:β),d β args bor k=some r→∃ v b,evF T zqZ L n g args bor=some (v,b)∧k v b=some r
theorem zI {cb:CB}:zlE noC cb:=by
 intro β f args bor k r h; cases h
theorem zu {c:CBC} {cb:CB} (hc:zlE c cb) {g:Nat} {d:∀ (β:Type),List V→Bor→(V→Bor→Option β)→Option β} (hd:∀ (β:Type) (args:List V) (bor:Bor) (k:V→Bor→Option β) (r:β),d β args bor k=some r→∃ v b,cb g args bor=some (v,b)∧k v b=some r):zlE (xB g d c) cb:=by
 intro β f args bor k r h
 unfold xB at h
 split at h
 ·rename_i hf
  rw [Nat.eq_of_beq_eq_true hf]
  exact hd _ _ _ _ _ h
 ·exact hc _ _ _ _ _ _ h
theorem yI {T:Nat→Option CF} {L g:Nat} {cf:CF} (hT:T g=some cf) {d:∀ (β:Type),List V→Bor→(V→Bor→Option β)→Option β} {D:Nat}
  (h:∀ m,D≤m→∃ (sh:Nat→Sh) (c:CBC),zlE c (evF T zqZ L m)∧∀ (β:Type) (args:List V) (bor:Bor) (k:V→Bor→Option β) (r:β),d β args bor k=some r→zw sh c L cf args bor k=some r):FOk T L g d (D+1):=by
 intro n hn β args bor k r hr
 obtain ⟨m,rfl⟩:∃ m,n=m+1:=⟨n - 1,by omega⟩
 obtain ⟨sh,c,hc,hd⟩:=h m (by omega)
 exact zFD hc hT (hd _ _ _ _ _ hr)
theorem zCO {β:Type} (kd:IntKind) (n:Int) (k:Int→Option β):aI kd (.sc (.int kd n)) k=k n:=by show chk (kd=kd) (k n)=k n; rw [zht,if_pos rfl]
theorem zE5 {β:Type} (sz:Nat) (l:List (List V)) (k:List (List V)→Option β):aL sz (.sl sz l) k=k l:=by show chk (sz=sz) (k l)=k l; rw [zht,if_pos rfl]
theorem zGz {β:Type} (l:List V) (k:List V→Option β):aG (.agg l) k=k l:=rfl
theorem zGd {β:Type} {p:V} {k:Option β} {r:β} (h:aI .i64 p (fun p1=>chk (0≤p1∧p1≤1000000000) k)=some r):∃ n,p=.sc (.int .i64 n)∧0≤n∧n≤1000000000∧k=some r:=by
 obtain ⟨n,rfl,h⟩:=xR h
 obtain ⟨hc,h⟩:=yB h
 exact ⟨n,rfl,hc.1,hc.2,h⟩
theorem zE2 {T:Nat→Option CF} {L:Nat} (hT:T 459=none) {d:∀ (β:Type),List V→Bor→(V→Bor→Option β)→Option β}
  (hd:∀ (β:Type) (args:List V) (bor:Bor) (k:V→Bor→Option β) (r:β),d β args bor k=some r→∃ n,args=[.fr 1 [],.sc (.int .i64 n)]∧bor=[]∧0≤n∧n≤1000000000∧k (.gs 1 []) []=some r):FOk T L 459 d 1:=by
 intro n hn β args bor k r hr
 obtain ⟨m,rfl⟩:∃ m,n=m+1:=⟨n - 1,by omega⟩
 obtain ⟨x,rfl,rfl,h0,h1,hk⟩:=hd _ _ _ _ _ hr
 exact ⟨.gs 1 [],[],by simp only [evF,hT,zqZ]; rw [if_pos ⟨trivial,h0,h1⟩],hk⟩
end
end
section
set_option linter.unusedVariables false
set_option linter.unusedSimpArgs false
open Go.Shelf Go.Lib
variable {ren:Rn} {we:World} {ωe:Nat→Ow} {U:Nat→Nat→Prop} {O:Nat→Prop} {σ:St} {a:Act} {w:World} {ω:Nat→Ow} {μ:Nat→Nat} {P:Program} {ρ:Ren}
theorem Rel.bare (R:Rel ren we ωe U O σ a w ω μ):Rel ren we ωe U O ⟨[.junk],[]⟩ ⟨#[undef],[]⟩ w ω μ :=
 ⟨rfl,rfl,(fun i v h=>by
  cases i with
  | zero=>cases h; exact .junk
  | succ i=>simp at h),(fun id p cs h=>by simp at h),(fun id cs h=>by simp at h),(fun id es h=>by simp at h),R.kp,R.ow,R.ul,R.fr,R.rs,R.gv⟩
theorem zDM {fg:List (Nat × Nat)} {gl:List (Nat × List V)} {f0:Nat} (L:Lays8.n4 P ρ) (hf0:ρ.f 4=f0) (hfg:fg.all (fun e=>e.2 != 459 || e.1 == f0)=true) (hc:zf7 P f0=true) (hi:((P.info? (ρ.t 25)).bind fun i=>i.zero.map fun z=>(i.size,i.bytes,z.cells.size))=some (1,1,1)):zgW P (yK fg gl) zqZ:=by
 simp only [Option.bind_eq_some_iff,Option.map_eq_some_iff,Prod.mk.injEq] at hi
 obtain ⟨i0,hi0,z,hz0,hs,hb,hzc⟩:=hi
 intro g args bor r bor' hp f hf
 obtain ⟨n,rfl,h0,h1,rfl,rfl,rfl,rfl⟩:=zEo hp
 have ef:f=f0:=by
  simp only [yK,Option.map_eq_some_iff] at hf
  obtain ⟨x,hx,hx2⟩:=hf
  have hxf:x.1=f:=by have:=List.find?_some hx; simpa using this
  have:=List.all_eq_true.1 hfg x (List.mem_of_find?_eq_some hx)
  simp [hx2] at this
  rw [← hxf,this]
 subst ef
 refine ⟨hc,fun w us U O ω μ R=>?_⟩
 have hlen:us.length=2:=by have:=R.tl; simpa using this
 obtain ⟨u0,u1,rfl⟩:∃ u0 u1,us=[u0,u1]:=by
  match us,hlen with
  | [a,b],_=>exact ⟨a,b,rfl⟩
 have r0:Rep (yK fg gl) _ (.slot 0 0) (.fr 1 []) u0:=R.ts 0 _ rfl
 have r1:Rep (yK fg gl) _ (.slot 1 0) (.sc (.int .i64 n)) u1:=R.ts 1 _ rfl
 obtain ⟨A,rfl⟩:∃ A,u0=.slice A 0 0:=by
  cases r0 with
  | pure h=>cases h
  | fr0 _ A=>exact ⟨A,rfl⟩
  | fr _ _ β c arr T f hω hb hc hn hsz hcell h1' hh =>
   have:c=0:=(hn.2 rfl).resolve_left (by decide)
   subst this; exact ⟨_,rfl⟩
 obtain ⟨rfl,_⟩:=r1.sc_eq
 obtain ⟨m,rfl⟩:∃ m:Nat,n=m:=⟨n.toNat,by omega⟩
 have RB:=R.bare
 by_cases hm:m=0
 ·subst hm
  rw [← hf0]
  refine (Any8.slices_Grow_room L A 0 0 0 w (by omega) (by omega) (by omega) (by omega)).mono ?_
  rintro e w' ⟨rfl,rfl⟩
  exact ⟨_,ω,μ,rfl,RB.put (some 0) (fun i hi=>.pure (.nil _ _)),fun k hk=>rfl⟩
 ·rw [← hf0]
  have big:(0+m) * i0.bytes≤140737488355328:=by rw [hb]; omega
  refine (Any8.slices_Grow_grow L i0 z hi0 hz0 (by omega) A 0 0 m [] w (by omega) (by omega) big (by omega) (by simp) (fun _=>rfl) (fun a _ j v hj=>by simp at hj)).mono ?_
  rintro e w' ⟨rfl,rfl⟩
  obtain ⟨_,RD⟩:=RB.drew
  have hcap:=grownCap_ge w (0+m) 0 (ρ.t 25)
  have key:=zpy (nb:=0) RD (dst:=some 0) (pin:=false) (sz:=1) (es:=[]) (σ':=⟨[.gs 1 []],[]⟩) rfl (arr:=(([]:List Value).toArray++Builtin.zeroCells z.cells (0+m - 0)++Builtin.zeroCells z.cells (grownCap w (0+m) 0 (ρ.t 25) - (0+m)))) (T:=ρ.t 25) (c:=grownCap w (0+m) 0 (ρ.t 25)) (by simp) (by simp) (by simp) (by
   simp [Builtin.zeroCells,hzc]; omega) (by simp)
  obtain ⟨ω',μ',q1,q2⟩:=key
  exact ⟨_,ω',μ',rfl,q1,fun k hk=>by simp at hk⟩
end
end Go.Proofs.YteopmmegeagklaaDoor
