/- Part 7 of the proof of ConnectEclipse: an abstract machine over plain values, its soundness, and the functions of the program on plain values. -/
import Derived.Test.YtpafdnidhnldhaaMConnectEclipse6
namespace Go.Proofs.Ytpafdnidhnldhaa
section
section
variable {β:Type}
def chk (p:Prop) [Decidable p] (k:Option β):Option β:=if p then k else none
def ifb (t:Bool) (a b:Option β):Option β:=match t with
 | true=>a
 | false=>b
def lt {α:Type} (a:α) (k:α→Option β):Option β:=k a
def aI (kd:IntKind) (v:V) (k:Int→Option β):Option β:=match v with
 | .sc (.int kd' n)=>if kd'=kd then k n else none
 | _=>none
def zty (v:V) (k:Int→Option β):Option β:=match v with
 | .sc (.int _ n)=>k n
 | _=>none
def aB (v:V) (k:Bool→Option β):Option β:=match v with
 | .sc (.bool b)=>k b
 | _=>none
def aS (v:V) (k:ByteArray→Option β):Option β:=match v with
 | .sc (.string s)=>k s
 | _=>none
def aL (sz:Nat) (v:V) (k:List (List V)→Option β):Option β:=match v with
 | .sl sz' es=>if sz'=sz then k es else none
 | _=>none
def aLd (sz:Nat) (v:V) (k:List (List V)→Option β):Option β:=match v with
 | .sl sz' es=>if sz'=sz then k es else none
 | .gs sz' es=>if sz'=sz then k es else none
 | _=>none
def aA (n:Nat) (v:V) (k:List V→Option β):Option β:=match v with
 | .agg cs=>if cs.length=n then k cs else none
 | _=>none
def aG (v:V) (k:List V→Option β):Option β:=match v with
 | .agg cs=>k cs
 | _=>none
def aGs (sz:Nat) (v:V) (k:List (List V)→Option β):Option β:=match v with
 | .gs sz' es=>if sz'=sz then k es else none
 | _=>none
def aP (id off:Nat) (v:V) (k:Option β):Option β:=match v with
 | .ptr i o=>if i=id∧o=off then k else none
 | _=>none
def aM (id:Nat) (v:V) (k:Option β):Option β:=match v with
 | .mp i=>if i=id then k else none
 | _=>none
def aO (id sz:Nat) (v:V) (k:Nat→Nat→Option β):Option β:=match v with
 | .own i o l s=>if i=id∧s=sz then k o l else none
 | _=>none
def aO0 (id sz:Nat) (v:V) (k:Nat→Option β):Option β:=match v with
 | .own i o l s=>if i=id∧s=sz∧o=0 then k l else none
 | _=>none
def aFp (n:Nat) (v:V) (k:List V→Option β):Option β:=match v with
 | .fp m cs=>if m=n then k cs else none
 | _=>none
def aV (u:Value) (v:V) (k:Option β):Option β:=match u,v with
 | .nilFunc,.sc .nilFunc=>k
 | .pointer none,.sc (.pointer none)=>k
 | .map none,.sc (.map none)=>k
 | _,_=>none
def zxL:List (Nat × Nat)→List V→Bool
 | [],[]=>true
 | (i,o)::r,.ptr a b::s=>Nat.beq i a && (Nat.beq o b && zxL r s)
 | _,_=>false
def aF (f:Nat) (caps:List (Nat × Nat)) (v:V) (k:Option β):Option β:=match v with
 | .fn g cs=>match Nat.beq f g && zxL caps cs with
  | true=>k
  | false=>none
 | _=>none
def zfy (cs:List V) (off:Nat) (k:V→Option β):Option β:=match cs[off]? with
 | some v=>k v
 | none=>none
def idx (es:List (List V)) (j:Int) (k:List V→Option β):Option β:=if 0≤j then (match es[j.toNat]? with
 | some c=>k c
 | none=>none) else none
def eqC (n:Nat) (a b:List V) (k:Bool→Option β):Option β:=if a.length=n∧b.length=n then (match ziB a b with
 | some r=>k r
 | none=>none) else none
def zIn (es:List (List V)) (k:ByteArray→Option β):Option β:=match zhb es with
 | some l=>k ⟨l.toArray⟩
 | none=>none
def zKe (es fs:List (List V)) (k:Int→Option β):Option β:=match zhb es with
 | some a=>match zhb fs with
  | some b=>k (Lib.compareBytes a b)
  | none=>none
 | none=>none
def ztZ (cs:List V) (k:List V→Option β):Option β:=match cs.mapM V.plain with
 | some vs=>k vs
 | none=>none
def zGg (cs:List V) (k:List V→Option β):Option β:=match cs.mapM V.refd with
 | some vs=>k vs
 | none=>none
def mAt (kd:Nat) (key:V) (es:List (V × V)) (k:Option V→Option β):Option β:=match zhQ kd key with
 | true=>match zqO key es with
  | some r=>k r
  | none=>none
 | false=>none
def zs5 (kd:Nat) (key val:V) (es:List (V × V)) (k:List (V × V)→Option β):Option β:=match zhQ kd key with
 | true=>match zzu key val es with
  | some r=>k r
  | none=>none
 | false=>none
def cI (kd:IntKind) (cs:List V) (off:Nat) (k:Int→Option β):Option β:=zfy cs off (fun v=>aI kd v k)
def cB (cs:List V) (off:Nat) (k:Bool→Option β):Option β:=zfy cs off (fun v=>aB v k)
def cS (cs:List V) (off:Nat) (k:ByteArray→Option β):Option β:=zfy cs off (fun v=>aS v k)
def cL (sz:Nat) (cs:List V) (off:Nat) (k:List (List V)→Option β):Option β:=zfy cs off (fun v=>aL sz v k)
def cLd (sz:Nat) (cs:List V) (off:Nat) (k:List (List V)→Option β):Option β:=zfy cs off (fun v=>aLd sz v k)
end
def zIm (k:IntKind) (a b:Int):Int:=k.wrap (BitVec.ofInt k.bits a &&& BitVec.ofInt k.bits b).toNat
def ior (k:IntKind) (a b:Int):Int:=k.wrap (BitVec.ofInt k.bits a ||| BitVec.ofInt k.bits b).toNat
def za4 (k:IntKind) (a b:Int):Int:=k.wrap (BitVec.ofInt k.bits a ^^^ BitVec.ofInt k.bits b).toNat
def zKQ (k:IntKind) (a b:Int):Int:=k.wrap (BitVec.ofInt k.bits a &&& ~~~ BitVec.ofInt k.bits b).toNat
def zKS (k:IntKind) (n:Int):Int:=k.wrap (BitVec.ofInt k.bits (if k.signed then -1 else k.max) ^^^ BitVec.ofInt k.bits n).toNat
def zre (k:IntKind) (a b:Int):Int:=k.wrap (a * 2 ^ (min b.toNat k.bits))
def znO (k:IntKind) (a b:Int):Int:=a.fdiv (2 ^ (min b.toNat k.bits))
def zGc (a b:Int):Int:=if b > a then b else a
def zKF (a b:Int):Int:=if b < a then b else a
inductive Sh where
 | any
 | int (k:IntKind)
 | bool
 | str
 | sl (sz:Nat)
 | row (l:List Sh)
def asc {β:Type} (s:Sh) (v:V) (k:V→Option β):Option β:=match s with
 | .any=>k v
 | .int kd=>aI kd v (fun n=>k (.sc (.int kd n)))
 | .bool=>aB v (fun b=>k (.sc (.bool b)))
 | .str=>aS v (fun t=>k (.sc (.string t)))
 | .sl sz=>aL sz v (fun es=>k (.sl sz es))
 | .row _=>none
def zJ8 {β:Type} (s:Sh) (v:V) (k:V→Option β):Option β:=match s with
 | .any=>k v.dem
 | .int kd=>aI kd v (fun n=>k (.sc (.int kd n)))
 | .bool=>aB v (fun b=>k (.sc (.bool b)))
 | .str=>aS v (fun t=>k (.sc (.string t)))
 | .sl sz=>aLd sz v (fun es=>k (.sl sz es))
 | .row _=>none
def zDM {β:Type}:List Sh→Nat→List V→(List V→Option β)→Option β
 | [],_,_,k=>k []
 | s::ss,i,cs,k=>zfy cs i fun v=>asc s v fun v=>zDM ss (i+1) cs fun r=>k (v::r)
def zxJ {β:Type} (s:Sh) (cs:List V) (k:List V→Option β):Option β:=match s with
 | .row ss=>chk (cs.length=ss.length) (zDM ss 0 cs k)
 | _=>k cs
abbrev CBC:=∀ (β:Type),Nat→List V→Bor→(V→Bor→Option β)→Option β
section
variable {β:Type}
def zmg (o:Option St) (κ:St→Option β):Option β:=match o with
 | some σ=>κ σ
 | none=>none
def ltV (v:Value) (k:Value→Option β):Option β:=match v with
 | .int kd n=>lt n fun n=>k (.int kd n)
 | v=>k v
def zIV:V→V
 | .gs sz _=>.gs sz []
 | .sl sz _=>.sl sz []
 | v=>v
def zGn (t:Bool) (a b:V) (k:V→Option β):Option β:=match a,b with
 | .sc (.bool x),.sc (.bool y)=>k (.sc (.bool (cond t x y)))
 | .sc (.int kd x),.sc (.int kd' y)=>if kd=kd' then lt (cond t x y) (fun n=>k (.sc (.int kd n))) else none
 | a,b=>ifb t (k a) (k b)
def zAj (σ:St):List (Nat × Nat × Src)→List V→(List V→Option β)→Option β
 | [],cs,k=>k cs
 | (off,n,x)::rest,cs,k=>match (x.get σ).plain with
  | some v=>chk (v.cells.length=n∧off+n≤cs.length) (zAj σ rest (xg cs off v.cells) k)
  | none=>none
def zwU (sh:Nat→Sh) (σ:St):List (Nat × Nat × Src)→List V→(List V→Option β)→Option β
 | [],cs,k=>k cs
 | (off,n,x)::rest,cs,k=>match x.get σ with
  | .agg us=>zxJ (sh ((x.slot).getD 0)) us fun us=>chk (us.length=n∧off+n≤cs.length) (zwU sh σ rest (xg cs off us) k)
  | v=>match v.refd with
   | some v=>chk (v.cells.length=n∧off+n≤cs.length) (zwU sh σ rest (xg cs off v.cells) k)
   | none=>none
def zIv (op:BinOp) (x y:Value) (k:Value→Option β):Option β :=
 match op,x,y with
 | .shl,.int kd a,.int _ b=>chk (0≤b) (k (.int kd (kd.wrap (a * 2 ^ (min b.toNat kd.bits)))))
 | .shr,.int kd a,.int _ b=>chk (0≤b) (k (.int kd (a.fdiv (2 ^ (min b.toNat kd.bits)))))
 | .quo,.int kd a,.int kd' b=>if kd=kd' then chk (b≠0) (k (.int kd (kd.wrap (a.tdiv b)))) else none
 | .rem,.int kd a,.int kd' b=>if kd=kd' then chk (b≠0) (k (.int kd (a.tmod b))) else none
 | op,x,y=>match zqt op x y with
  | some r=>k r
  | none=>none
def zxF (σ:St) (x:Option Src) (dflt:Nat) (most:Nat) (k:Nat→Option β):Option β :=
 match x with
 | none=>k dflt
 | some s=>zty (s.get σ) fun i=>chk (0≤i∧i≤most) (k i.toNat)
def zxH (σ:St) (len:Nat) (lo hi mx:Option Src) (k:Nat→Nat→Nat→Option β):Option β :=
 zxF σ mx len len fun m=>zxF σ hi len m fun h=>zxF σ lo 0 h fun l=>k l h m
def zFr (l h m id off sz:Nat) (k:V→Option β):Option β:=ifb (decide (m=l)) (k (.gs sz [])) (k (.own id (off+l * sz) (h - l) sz))
def zqz (b:List B) (v:V) (k:V→Option β):Option β:=match zbN b v with
 | some u=>k u
 | none=>none
def zAb (sh:Sh) (cs:List V) (off:Nat) (k:V→Option β):Option β:=zfy cs off (fun v=>asc sh v k)
def zGZ (sh:Sh) (cs:List V) (off:Nat) (k:V→Option β):Option β:=zfy cs off (fun v=>zJ8 sh v k)
def zDA (nb:Nat) (σ:St) (dst:Option Nat) (pin:Bool) (v:V) (κ:St→Option β):Option β:=match v with
 | .fr sz es=>match pin with
  | true=>zmg (σ.putG nb dst true sz es) κ
  | false=>κ (σ.put dst (.gs sz es))
 | v=>zmg (σ.putR nb dst pin v) κ
def zBR (b:List B) (id:Nat) (κ:List B→Option β):Option β:=match b[id]? with
 | some (.live true cs)=>ifb cs.isEmpty (κ b) (κ (b.set id (.fz cs)))
 | _=>κ b
def zq5 (σ:St):List (Src × Nat)→List B→(List B→Option β)→Option β
 | [],b,κ=>κ b
 | s::rest,b,κ=>match decide (2≤s.2) with
  | true=>zq5 σ rest b κ
  | false=>match zaM (s.1.get σ) with
   | some id=>zBR b id fun b=>zq5 σ rest b κ
   | none=>zq5 σ rest b κ
def zwY (nb:Nat):List Nat→St→(St→Option β)→Option β
 | [],σ,κ=>κ σ
 | d::fz,σ,κ=>match σ.b[nb+d]? with
  | some (.live true cs)=>chk (cs.length≠0) (zwY nb fz { σ with b:=σ.b.set (nb+d) (.fz cs) } κ)
  | _=>zwY nb fz σ κ
def zxS (cb:CBC) (nb:Nat) (σ:St) (dst:Option Nat) (pin:Bool) (f:Nat) (args:List V) (srcs:List (Src × Nat)) (xs:List Nat) (κ:St→Option β):Option β :=
 zq5 σ srcs σ.b fun b1 =>
 let σ1:St:={ σ with b:=b1 }
 let ids:=zaH σ1.b args
 match zey σ1.b ids ids with
 | none=>none
 | some bor=>cb β f (args.map (zdH (yS ids))) bor fun r bor' =>
  let ids':=ids++(xs.map (nb+·)).take (bor'.length - ids.length)
  chk ((bor'.take ids.length).map B.len=bor.map B.len)
   (match decide (bor'.length=ids'.length) && (args.all (fun a=>(xM a).all ids.contains) && (zA0 r && ((zjd r).all (fun k=>decide (k < ids'.length)) && (bor'.all (B.lend (List.range ids'.length)) && (zhR (bor'.take ids.length) bor && ((bor'.drop ids.length).all B.isRow && zkC σ1.b nb xs)))))) with
   | true=>zDA nb { σ1 with b:=zaO (fun k=>ids'.getD k 0) ids' bor' σ1.b } dst pin (znB (fun k=>ids'.getD k 0) r) κ
   | false=>none)
def zdr (sh:Nat→Sh) (cb:CBC) (nb:Nat) (σ:St) (dst:Option Nat) (pin:Bool) (k:K) (κ:St→Option β):Option β :=
 match k with
 | .pick c a b=>aB (c.get σ) fun t=>zGn t (a.get σ).dem (b.get σ).dem fun v=>κ (σ.put dst v)
 | .build zero parts=>zAj σ parts zero fun cs=>κ (σ.put dst (.agg cs))
 | .buildSt zero parts=>zwU sh σ parts zero fun cs=>κ (σ.put dst (.st cs))
 | .nilT neg x=>match (x.get σ).dem with
  | .sl _ es=>match x with
   | .tmp t=>ifb es.isEmpty (lt { σ with t:=σ.t.set t (zIV (x.get σ)) } fun σ=>κ (σ.put dst .ub)) (κ (σ.put dst (.sc (.bool neg))))
   | .const _=>none
  | _=>none
 | .un op x=>match x.get σ with
  | .sc a=>match zFY op a with
   | some r=>ltV r fun r=>κ (σ.put dst (.sc r))
   | none=>none
  | _=>none
 | .conv k x=>zty (x.get σ) fun n=>lt (k.wrap n) fun n=>κ (σ.put dst (.sc (.int k n)))
 | .mm isMax x y=>match x.get σ,y.get σ with
  | .sc (.int k a),.sc (.int _ b)=>lt (if isMax then (if b > a then b else a) else (if b < a then b else a)) fun n=>κ (σ.put dst (.sc (.int k n)))
  | _,_=>none
 | .copy sz d s=>match d.get σ with
  | .own id off len sz1=>zqz σ.b (s.get σ) fun u=>match u with
   | .sl sz2 es=>match σ.b[id]? with
    | some (.live true cs)=>chk (sz1=sz∧sz2=sz) (lt (xg cs off (es.take (min es.length len)).flatten) fun cs'=>κ ((σ.setB id (.live true cs')).put dst (.sc (.int .i64 ((min es.length len:Nat):Int)))))
    | _=>none
   | _=>none
  | _=>none
 | .box p x=>match x.get σ with
  | .st cs=>match p with
   | true=>none
   | false=>zmg (σ.newB nb dst (.live false cs) (fun id=>.ptr id 0)) κ
  | v=>match v.plain with
   | some v=>match p with
    | true=>zmg (σ.newB nb dst (.live true v.cells) (fun id=>.ptr id 0)) κ
    | false=>zxJ (sh (dst.getD 0)) v.cells fun cs=>zmg (σ.newB nb dst (.live false cs) (fun id=>.ptr id 0)) κ
   | none=>none
 | .buildSlice sz n zero parts=>zAj σ parts (List.replicate n zero).flatten fun cs=>match decide (n=0∧pin=true) with
  | true=>κ (σ.put dst (.fr sz []))
  | false=>zmg (σ.putG nb dst pin sz (yl sz n cs)) κ
 | .bin op x y=>match x.get σ,y.get σ with
  | .sc a,.sc b=>zIv op a b fun r=>ltV r fun r=>κ (σ.put dst (.sc r))
  | _,_=>none
 | .eqAgg neg n x y=>match x.get σ,y.get σ with
  | .agg a,.agg b=>eqC n a b fun r=>κ (σ.put dst (.sc (.bool (if neg then !r else r))))
  | _,_=>none
 | .toStr x=>zqz σ.b (x.get σ) fun v=>match v with
  | .sl 1 es=>zIn es fun s=>κ (σ.put dst (.sc (.string s)))
  | _=>none
 | .cmpB x y=>zqz σ.b (x.get σ) fun u=>zqz σ.b (y.get σ) fun v=>match u,v with
  | .sl 1 es,.sl 1 fs=>zKe es fs fun n=>lt n fun n=>κ (σ.put dst (.sc (.int .i64 n)))
  | _,_=>none
 | .makeSlice sz bytes zero l c=>zty (l.get σ) fun l=>zty (c.get σ) fun c =>
  match pin with
  | true=>chk (0≤l∧l≤c∧c.toNat * bytes≤zs∧c≤zs∧l=c) (zmg (σ.putG nb dst true sz (List.replicate l.toNat zero)) κ)
  | false=>chk (0≤l∧l≤c∧c.toNat * bytes≤zs∧c≤zs) (zmg (σ.putG nb dst false sz (List.replicate l.toNat zero)) κ)
 | .sliceA n sz x lo hi mx=>zxH σ n lo hi mx fun l h m =>
  match x.get σ with
  | .ptr id off=>match σ.b[id]? with
   | some (.live _ cs)=>chk (off+n * sz≤cs.length) (zFr l h m id off sz fun v=>κ (σ.put dst v))
   | some (.fz cs)=>chk (off+n * sz≤cs.length) (zFr l h m id off sz fun v=>κ (σ.put dst v))
   | _=>none
  | .fp q cs=>chk (n * sz≤q) (κ (σ.put dst (.sl sz (yl sz (h - l) (cs.drop (l * sz))))))
  | _=>none
 | .sliceS sz x lo hi mx=>match (x.get σ).dem with
  | .sl sz' es=>zxH σ es.length lo hi mx fun l h m =>
   chk (sz=sz') (match mx with
    | none=>κ (σ.put dst (.sl sz ((es.drop l).take (h - l))))
    | some _=>ifb (decide (m=l)) (κ (σ.put dst (.fr sz []))) (κ (σ.put dst (.sl sz ((es.drop l).take (h - l))))))
  | .own id off len sz'=>zxH σ len lo hi mx fun l h m=>chk (sz=sz') (match mx with
    | none=>κ (σ.put dst (.own id (off+l * sz) (h - l) sz))
    | some _=>ifb (decide (m=l)) (κ (σ.put dst (.fr sz []))) (κ (σ.put dst .junk)))
  | _=>none
 | .field agg o n x=>match x.get σ with
  | .agg cs=>match agg with
   | true=>κ (σ.put dst (.agg ((cs.drop o).take n)))
   | false=>zAb (sh (dst.getD 0)) cs o fun v=>κ (σ.put dst v)
  | .st cs=>match agg with
   | true=>none
   | false=>match cs[o]? with
    | some v=>κ (σ.put dst v)
    | none=>none
  | _=>none
 | .indexAddrA len sz x i=>zty (i.get σ) fun j=>chk (0≤j∧j < len) (match x.get σ with
   | .ptr id off=>κ (σ.put dst (.ptr id (off+j.toNat * sz)))
   | .fp n cs=>chk (len * sz≤n) (κ (σ.put dst (.fp (n - j.toNat * sz) (cs.drop (j.toNat * sz)))))
   | _=>none)
 | .indexAddrS sz x i=>zty (i.get σ) fun j=>match (x.get σ).dem with
   | .sl sz' es=>chk (sz=sz') (idx es j fun c=>κ (σ.put dst (.fp sz c)))
   | .own id off len sz'=>chk (sz=sz') (chk (0≤j∧j < len) (κ (σ.put dst (.ptr id (off+j.toNat * sz)))))
   | _=>none
 | .indexA agg len sz x i=>zty (i.get σ) fun j=>chk (0≤j∧j < len) (match x.get σ with
   | .agg cs=>match agg with
    | true=>κ (σ.put dst (.agg ((cs.drop (j.toNat * sz)).take sz)))
    | false=>zAb (sh (dst.getD 0)) cs (j.toNat * sz) fun v=>κ (σ.put dst v)
   | _=>none)
 | .load agg n a take=>match a.get σ with
  | .ptr id off=>match σ.b[id]? with
   | some (.live p cs)=>match agg with
    | true=>chk (off+n≤cs.length) (match p with
     | true=>κ (σ.put dst (.agg ((cs.drop off).take n)))
     | false=>match take with
      | true=>zGg ((cs.drop off).take n) fun vs=>κ (σ.put dst (.st vs))
      | false=>ztZ ((cs.drop off).take n) fun vs=>κ (σ.put dst (.agg vs)))
    | false=>match take with
     | true=>match p with
      | true=>none
      | false=>zfy cs off fun v=>κ ((σ.setB id (.live p (cs.set off v.dem))).put dst v.tk)
     | false=>zGZ (sh (dst.getD 0)) cs off fun v=>κ (σ.put dst v)
   | some (.fz cs)=>match agg with
    | true=>chk (off+n≤cs.length) (κ (σ.put dst (.agg ((cs.drop off).take n))))
    | false=>zAb (sh (dst.getD 0)) cs off fun v=>κ (σ.put dst v)
   | _=>none
  | .fp m cs=>match agg with
   | true=>chk (n≤m) (κ (σ.put dst (.agg (cs.take n))))
   | false=>zAb (sh (dst.getD 0)) cs 0 fun v=>κ (σ.put dst v)
  | _=>none
 | .store n a x=>match dst with
  | some _=>none
  | none=>match a.get σ with
   | .ptr id off=>match σ.b[id]? with
    | some (.live true cs)=>match (x.get σ).plain with
     | some v=>chk (v.cells.length=n∧off+n≤cs.length) (lt (xg cs off v.cells) fun cs'=>κ (σ.setB id (.live true cs')))
     | none=>none
    | some (.live false cs)=>match x.get σ with
     | .agg us=>zxJ (sh ((x.slot).getD 0)) us fun us=>chk (us.length=n∧off+n≤cs.length) (κ (σ.setB id (.live false (xg cs off us))))
     | .st us=>chk (us.length=n∧off+n≤cs.length) (κ (σ.setB id (.live false (xg cs off us))))
     | .tup _=>none
     | .bx _ _=>none
     | .fr _ _=>none
     | .junk=>none
     | v=>chk (n=1∧off < cs.length) (κ ((σ.demote x).setB id (.live false (cs.set off v))))
    | _=>none
   | _=>none
 | .append sz bytes s x=>match s.get σ with
  | .gs sz1 es=>zqz σ.b (x.get σ) fun u=>match u with
   | .sl sz2 es2=>chk (sz1=sz∧sz2=sz) (chk ((es.length+es2.length) * bytes≤zs∧es.length+es2.length≤zs) (match pin with
    | true=>match s,es with
     | .const _,[]=>zmg (σ.putG nb dst true sz es2) κ
     | _,_=>none
    | false=>lt (es++es2) fun es'=>κ ((σ.demote s).put dst (.gs sz es'))))
   | _=>none
  | .fr sz1 []=>zqz σ.b (x.get σ) fun u=>match u with
   | .sl sz2 es2=>chk (sz1=sz∧sz2=sz) (chk ((0+es2.length) * bytes≤zs∧0+es2.length≤zs) (zmg ((σ.demote s).putG nb dst pin sz es2) κ))
   | _=>none
  | .own id off len sz1=>zqz σ.b (x.get σ) fun u=>match u with
   | .sl sz2 es2=>match σ.b[id]? with
    | some (.live true cs)=>chk (sz1=sz∧sz2=sz∧off=0) (chk ((len+es2.length) * bytes≤zs∧len+es2.length≤zs∧(len+es2.length≠0∨cs.length=0)) (lt (cs.take (len * sz)++es2.flatten) fun cs' =>
     zmg ((σ.setB id (.dead cs.length)).newB nb dst (.live true cs') (fun id'=>.own id' 0 (len+es2.length) sz)) κ))
    | _=>none
   | _=>none
  | _=>none
 | .clear sz zero x=>match x.get σ with
  | .own id off len sz1=>match σ.b[id]? with
   | some (.live true cs)=>chk (sz1=sz) (lt (xg cs off (List.replicate len zero).flatten) fun cs'=>κ ((σ.setB id (.live true cs')).put dst (.tup [])))
   | _=>none
  | _=>none
 | .extract x i=>match x.get σ with
  | .tup vs=>match vs[i]?,x with
   | some v,.tmp t=>match vs.all zD7 && decide (dst≠some t) with
    | true=>match v.isHeld with
     | true=>zDA nb { σ with t:=σ.t.set t (.tup (vs.set i .junk)) } dst pin v κ
     | false=>match pin with
      | true=>none
      | false=>κ (σ.put dst v.dem)
    | false=>none
   | _,_=>none
  | _=>none
 | .appendZ sz bytes zero s x=>match s.get σ with
  | .gs sz1 es=>zty (x.get σ) fun n=>chk (sz1=sz) (chk (0≤n∧(es.length+n.toNat) * bytes≤zs∧es.length+n.toNat≤zs) (match pin with
   | true=>none
   | false=>lt (es++List.replicate n.toNat zero) fun es'=>κ ((σ.demote s).put dst (.gs sz es'))))
  | _=>none
 | .mlook kd ok zero x y=>match x.get σ with
  | .mp id=>match σ.b[id]? with
   | some (.mp es)=>mAt kd (y.get σ) es fun r=>asc (sh (dst.getD 0)) (r.getD zero) fun v=>match ok with
    | true=>κ (σ.put dst (.tup [v,.sc (.bool r.isSome)]))
    | false=>κ (σ.put dst v)
   | _=>none
  | _=>none
 | .mput kd x y z=>match dst with
  | some _=>none
  | none=>match x.get σ with
   | .mp id=>match σ.b[id]? with
    | some (.mp es)=>match (z.get σ).plain with
     | some v=>zs5 kd (y.get σ) v es fun es'=>κ (σ.setB id (.mp es'))
     | none=>none
    | _=>none
   | _=>none
 | .call f args xs=>match args.mapM (zbR σ) with
  | some vs=>zxS cb nb σ dst pin f vs args xs κ
  | none=>none
 | .callv f args xs=>match f.get σ with
  | .fn g caps=>match args.mapM (zbR σ) with
   | some vs=>zxS cb nb σ dst pin g (vs++caps) args xs κ
   | none=>none
  | _=>none
 | k=>zmg (xk (fun _ _ _=>none) nb σ dst pin k) κ
def zxK (sh:Nat→Sh) (cb:CBC) (nb:Nat) (σ:St) (o:COp) (κ:St→St→Option β):Option β :=
 match o.guard with
 | none=>zdr sh cb nb σ o.dst o.pin o.k (κ σ)
 | some (j,want)=>match σ.t[j]? with
  | some (.sc (.bool b))=>match want with
   | true=>ifb b (lt { σ with t:=σ.t.set j (.sc (.bool true)) } fun σ=>zdr sh cb nb σ o.dst o.pin o.k (κ σ)) (lt { σ with t:=σ.t.set j (.sc (.bool false)) } fun σ=>κ σ (σ.put o.dst (.tup [])))
   | false=>ifb b (lt { σ with t:=σ.t.set j (.sc (.bool true)) } fun σ=>κ σ (σ.put o.dst (.tup []))) (lt { σ with t:=σ.t.set j (.sc (.bool false)) } fun σ=>zdr sh cb nb σ o.dst o.pin o.k (κ σ))
  | some (.tup [])=>κ σ (σ.put o.dst (.tup []))
  | _=>none
def zy1 (sh:Nat→Sh) (cb:CBC) (nb:Nat):List COp→St→(St→Option β)→Option β
 | [],σ,κ=>κ σ
 | o::rest,σ,κ=>zxK sh cb nb σ o fun _ σ'=>zy1 sh cb nb rest σ' κ
def zEE (sh:Nat→Sh) (cb:CBC) (nb:Nat):List (COp × Fl)→St→(St→Option β)→Option β
 | [],σ,κ=>κ σ
 | (o,q)::rest,σ,κ=>zxK sh cb nb σ o fun σr σ'=>match zeP nb σr o q σ' with
  | true=>zEE sh cb nb rest σ' κ
  | false=>none
abbrev KT (β:Type):=Ex→St→Option β
def yU (rb:St→KT β→Option β) (K:KT β):KT β:=fun ex σ=>match ex with
 | .normal=>rb σ K
 | .exit j=>K (.exit j) σ
 | .ret=>K .ret σ
def xG (id:Nat) (K:KT β):KT β:=fun ex σ=>match ex with
 | .normal=>K .normal σ
 | .exit j=>match Nat.beq j id with
  | true=>K .normal σ
  | false=>K (.exit j) σ
 | .ret=>K .ret σ
def zcr (norm:St→St) (X:St→Option β) (K:KT β):KT β:=fun ex σ=>match ex with
 | .normal=>X (norm σ)
 | .exit j=>K (.exit j) σ
 | .ret=>K .ret σ
def yE (body:St→KT β→Option β) (norm:St→St):Nat→St→KT β→Option β
 | 0,_,_=>none
 | n+1,σ,K=>body σ (zcr norm (fun σ=>yE body norm n σ K) K)
def onR (o:Option (Ex × St)) (K:KT β):Option β:=match o with
 | some (ex,σ)=>K ex σ
 | none=>none
def yo (sh:Nat→Sh) (cb:CBC) (nb:Nat) (L:Nat):CC→St→KT β→Option β
 | .skip,σ,K=>K .normal σ
 | .reg ops,σ,K=>zy1 sh cb nb ops σ (K .normal)
 | .dreg fz ops,σ,K=>zwY nb fz σ fun σ=>zEE sh cb nb ops σ (K .normal)
 | .seq a b,σ,K=>yo sh cb nb L a σ (yU (yo sh cb nb L b) K)
 | .fork p c a b,σ,K=>yo sh cb nb L p σ (yU (fun σ K=>match c.get σ with
  | .ub=>match zDr (run (fun _ _ _=>none) nb L a σ) (run (fun _ _ _=>none) nb L b σ) with
   | true=>onR (run (fun _ _ _=>none) nb L b σ) K
   | false=>none
  | v=>aB v fun t=>ifb t (yo sh cb nb L a σ (yU (yo sh cb nb L b) K)) (yo sh cb nb L b σ K)) K)
 | .cond c a b,σ,K=>match c.get σ with
  | .ub=>match zBa (run (fun _ _ _=>none) nb L a σ) (run (fun _ _ _=>none) nb L b σ) with
   | true=>onR (run (fun _ _ _=>none) nb L b σ) K
   | false=>none
  | v=>aB v fun t=>ifb t (yo sh cb nb L a σ K) (yo sh cb nb L b σ K)
 | .block id a,σ,K=>yo sh cb nb L a σ (xG id K)
 | .loop kt kb a,σ,K=>yE (yo sh cb nb L a) (zae nb kt kb) L (zae nb kt kb σ) K
 | .mask kt kb,σ,K=>K .normal (zae nb kt kb σ)
 | .exit id,σ,K=>K (.exit id) σ
 | .ret,σ,K=>K .ret σ
def zq1 (nb:Nat) (σ:St) (r:RV) (k:V→Option β):Option β:=match r with
 | .cellS _ _ _=>none
 | .tmp t=>match σ.t.getD t .junk with
  | .own id off len sz=>match decide (nb≤id) with
   | true=>match σ.b[id]? with
    | some (.live true cs)=>match decide (off=0∧0 < sz) with
     | true=>chk (len≠0∨cs.length=0) (k (.fr sz (yl sz len cs)))
     | false=>none
    | _=>none
   | false=>k (.own id off len sz)
  | .ptr id off=>match σ.b[id]? with
   | some (.live p cs)=>match decide (off=0∧nb≤id) with
    | true=>chk (cs.length≠0) (match p with
     | true=>k (.bx p cs)
     | false=>ztZ cs fun cs=>k (.bx false cs))
    | false=>none
   | _=>none
  | _=>match zaX nb σ (.tmp t) with
   | some v=>k v
   | none=>none
 | .tmpP t=>match σ.t.getD t .junk with
  | .own id off len sz=>match decide (nb≤id∧off=0∧0 < sz) with
   | true=>match σ.b[id]? with
    | some (.live true cs)=>k (.gs sz (yl sz len cs))
    | _=>none
   | false=>none
  | _=>match zaX nb σ (.tmpP t) with
   | some v=>k v
   | none=>none
 | .cell t agg n=>match σ.t.getD t .junk with
  | .ptr id off=>match σ.b[id]? with
   | some (.live p cs)=>match agg with
    | true=>chk (off=0∧cs.length=n∧n≠0) (match p with
     | true=>k (.agg cs)
     | false=>ztZ cs fun cs=>k (.agg cs))
    | false=>match decide (n=1∧off=0) with
     | true=>zfy cs 0 fun v=>match v.plain with
      | some v=>k v
      | none=>none
     | false=>none
   | _=>none
  | _=>none
def zzh (nb:Nat) (σ:St):List RV→(List V→Option β)→Option β
 | [],k=>k []
 | r::rs,k=>zq1 nb σ r fun v=>zzh nb σ rs fun vs=>k (v::vs)
def zu2 (nb:Nat) (σ:St) (rs:List RV) (k:V→Option β):Option β :=
 match zlJ rs && zfu (zit nb σ rs) with
 | true=>match rs with
  | [r]=>zq1 nb σ r k
  | rs=>zzh nb σ rs fun vs=>k (.tup vs)
 | false=>none
def zxh (b:List B) (nb:Nat) (ids:List Nat):List Nat→(Bor→Option β)→Option β
 | [],k=>k []
 | id::rest,k=>match b[id]? with
  | some (.live p cs)=>match p with
   | true=>zxh b nb ids rest fun l=>k (.live true cs::l)
   | false=>match decide (id < nb) with
    | true=>chk (cs.all (zcx ids)=true) (zxh b nb ids rest fun l=>k (.live false (cs.map (zdH (yS ids)))::l))
    | false=>none
  | some (.mp es)=>match decide (id < nb) with
   | true=>zxh b nb ids rest fun l=>k (.mp es::l)
   | false=>none
  | some (.dead n)=>match decide (id < nb) with
   | true=>zxh b nb ids rest fun l=>k (.dead n::l)
   | false=>none
  | _=>none
def xZ (nb:Nat) (rs:List RV) (k:V→Bor→Option β):KT β:=fun ex σ=>match ex with
 | .exit _=>none
 | _=>match zjf σ.t.length rs σ with
  | some (σ,rs)=>zu2 nb σ rs fun r=>zxh σ.b nb (zeT nb r) (zeT nb r) fun b=>match zfu (zeT nb r) with
   | true=>k (znB (yS (zeT nb r)) r) b
   | false=>none
  | none=>none
def lc {α β:Type} (l:List α) (a:Option β) (b:α→List α→Option β):Option β:=match l with
 | []=>a
 | x::xs=>b x xs
def zB0:CC→Bool
 | .fork _ _ _ _=>true
 | .seq a b=>zB0 a || zB0 b
 | _=>false
def zDz (sh:Nat→Sh) (cb:CBC) (L:Nat) (c:CF) (args:List V) (bor:Bor) (k:V→Bor→Option β):Option β :=
 yo sh cb bor.length L c.body (enter c.ntmps args bor) (xZ bor.length c.res k)
def zt (sh:Nat→Sh) (cb:CBC) (L:Nat) (c:CF) (args:List V) (bor:Bor) (k:V→Bor→Option β):Option β :=
 match zB0 c.body,args with
 | true,.sl sz es::rest=>lc es (zDz sh cb L c (.sl sz []::rest) bor k) (fun x xs=>zDz sh cb L c (.sl sz (x::xs)::rest) bor k)
 | _,args=>zDz sh cb L c args bor k
end
def zHG (x:Nat):Nat→Nat→List Bool
 | 0,_=>[]
 | n+1,i=>x.testBit i::zHG x n (i+1)
def bl (x n:Nat):List Bool:=zHG x n 0
def zP:List (Nat × Sh)→Nat→Sh
 | [],_=>.any
 | (m,s)::r,n=>match Nat.beq m n with
  | true=>s
  | false=>zP r n
def zIy:V→Nat
 | .sc (.int _ _)=>1
 | .sc (.bool _)=>2
 | .sc _=>3
 | .agg _=>4
 | .tup _=>5
 | .sl _ _=>6
 | .gs _ _=>7
 | .own _ _ _ _=>8
 | .ptr _ _=>9
 | .fp _ _=>10
 | .fn f _=>100+f
 | .mp _=>12
 | .st _=>13
 | _=>11
def zKD:V→List Nat
 | .st cs=>13::cs.map zIy
 | v=>[zIy v]
def zxy:Bor→List Nat
 | []=>[]
 | .live true _::r=>20::zxy r
 | .live false cs::r=>21::(cs.map zIy++zxy r)
 | .mp _::r=>22::zxy r
 | _::r=>23::zxy r
def zGI:List Nat→List Nat→Bool
 | [],[]=>true
 | a::l,b::m=>Nat.beq a b && zGI l m
 | _,_=>false
def zBf (g:Nat) (tags:List Nat) (d:∀ (β:Type),List V→Bor→(V→Bor→Option β)→Option β) (c:CBC):CBC:=fun β f args bor k=>match Nat.beq f g && zGI tags (args.flatMap zKD++zxy bor) with
 | true=>d β args bor k
 | false=>c β f args bor k
def noC:CBC:=fun _ _ _ _ _=>none
def zw (g:Nat) (d:∀ (β:Type),List V→Bor→(V→Bor→Option β)→Option β) (c:CBC):CBC:=fun β f args bor k=>match Nat.beq f g with
 | true=>d β args bor k
 | false=>c β f args bor k
abbrev tq (n:Nat):Src:=.tmp n
abbrev oo (d:Nat) (k:K):COp:=⟨some d,false,none,k⟩
abbrev oz (k:K):COp:=⟨none,false,none,k⟩
abbrev KK (β:Type):=V→Bor→Option β
def rp:Nat→V→List V→List V
 | 0,_,l=>l
 | n+1,v,l=>v::rp n v l
def jn:Nat→List V→List V
 | 0,l=>l
 | n+1,l=>.junk::jn n l
def gn:Nat→List B→List B
 | 0,l=>l
 | n+1,l=>.gone::gn n l
end
section
set_option linter.unusedVariables false
set_option linter.unusedSimpArgs false
section
variable {β:Type} {r:β}
theorem yO {p:Prop} [Decidable p] {k:Option β} (h:chk p k=some r):p∧k=some r:=by
 unfold chk at h; split at h
 ·exact ⟨‹_›,h⟩
 ·cases h
theorem ziA {t:Bool} {a b:Option β} (h:ifb t a b=some r):(t=true∧a=some r)∨(t=false∧b=some r):=by
 cases t
 ·exact .inr ⟨rfl,h⟩
 ·exact .inl ⟨rfl,h⟩
theorem zaC {kd:IntKind} {v:V} {k:Int→Option β} (h:aI kd v k=some r):∃ n,v=.sc (.int kd n)∧k n=some r:=by
 unfold aI at h; split at h
 ·split at h
  ·rename_i e; subst e; exact ⟨_,rfl,h⟩
  ·cases h
 ·cases h
theorem zj6 {v:V} {k:Int→Option β} (h:zty v k=some r):∃ kd n,v=.sc (.int kd n)∧k n=some r:=by
 unfold zty at h; split at h
 ·exact ⟨_,_,rfl,h⟩
 ·cases h
theorem ztI {v:V} {k:Bool→Option β} (h:aB v k=some r):∃ b,v=.sc (.bool b)∧k b=some r:=by
 unfold aB at h; split at h
 ·exact ⟨_,rfl,h⟩
 ·cases h
theorem zHj {v:V} {k:ByteArray→Option β} (h:aS v k=some r):∃ s,v=.sc (.string s)∧k s=some r:=by
 unfold aS at h; split at h
 ·exact ⟨_,rfl,h⟩
 ·cases h
theorem zZ {sz:Nat} {v:V} {k:List (List V)→Option β} (h:aL sz v k=some r):∃ es,v=.sl sz es∧k es=some r:=by
 unfold aL at h; split at h
 ·split at h
  ·rename_i e; subst e; exact ⟨_,rfl,h⟩
  ·cases h
 ·cases h
theorem zJm {sz:Nat} {v:V} {k:List (List V)→Option β} (h:aLd sz v k=some r):∃ es,v.dem=.sl sz es∧k es=some r:=by
 unfold aLd at h; split at h
 ·split at h
  ·rename_i e; subst e; exact ⟨_,rfl,h⟩
  ·cases h
 ·split at h
  ·rename_i e; subst e; exact ⟨_,rfl,h⟩
  ·cases h
 ·cases h
theorem xY {v:V} {k:List V→Option β} (h:aG v k=some r):∃ cs,v=.agg cs∧k cs=some r:=by
 unfold aG at h; split at h
 ·exact ⟨_,rfl,h⟩
 ·cases h
theorem zJR {sz:Nat} {v:V} {k:List (List V)→Option β} (h:aGs sz v k=some r):∃ es,v=.gs sz es∧k es=some r:=by
 unfold aGs at h; split at h
 ·split at h
  ·rename_i e; subst e; exact ⟨_,rfl,h⟩
  ·cases h
 ·cases h
theorem zHn {id:Nat} {v:V} {k:Option β} (h:aM id v k=some r):v=.mp id∧k=some r:=by
 unfold aM at h
 split at h
 ·split at h
  ·rename_i e; subst e; exact ⟨rfl,h⟩
  ·cases h
 ·cases h
theorem zIZ {id sz:Nat} {v:V} {k:Nat→Option β} (h:aO0 id sz v k=some r):∃ l,v=.own id 0 l sz∧k l=some r:=by
 unfold aO0 at h
 split at h
 ·split at h
  ·rename_i hc; obtain ⟨rfl,rfl,rfl⟩:=hc; exact ⟨_,rfl,h⟩
  ·cases h
 ·cases h
theorem zlF {id off:Nat} {v:V} {k:Option β} (h:aP id off v k=some r):v=.ptr id off∧k=some r:=by
 unfold aP at h; split at h
 ·split at h
  ·rename_i e; rw [e.1,e.2]; exact ⟨rfl,h⟩
  ·cases h
 ·cases h
theorem zA9:∀ {caps:List (Nat × Nat)} {cs:List V},zxL caps cs=true→cs=caps.map (fun p=>.ptr p.1 p.2)
 | [],[],_=>rfl
 | (i,o)::r,.ptr a b::s,h=>by
  simp only [zxL,Bool.and_eq_true] at h
  rw [Nat.eq_of_beq_eq_true h.1,Nat.eq_of_beq_eq_true h.2.1,zA9 h.2.2]
  rfl
 | [],_::_,h=>by cases h
 | _::_,[],h=>by cases h
 | (i,o)::_,.sc _::_,h=>by cases h
 | (i,o)::_,.agg _::_,h=>by cases h
 | (i,o)::_,.tup _::_,h=>by cases h
 | (i,o)::_,.sl _ _::_,h=>by cases h
 | (i,o)::_,.gs _ _::_,h=>by cases h
 | (i,o)::_,.own _ _ _ _::_,h=>by cases h
 | (i,o)::_,.fp _ _::_,h=>by cases h
 | (i,o)::_,.fn _ _::_,h=>by cases h
 | (i,o)::_,.bx _ _::_,h=>by cases h
 | (i,o)::_,.fr _ _::_,h=>by cases h
 | (i,o)::_,.junk::_,h=>by cases h
theorem ztV {f:Nat} {caps:List (Nat × Nat)} {v:V} {k:Option β} (h:aF f caps v k=some r):v=.fn f (caps.map (fun p=>.ptr p.1 p.2))∧k=some r:=by
 unfold aF at h; split at h
 ·split at h
  ·rename_i e
   simp only [Bool.and_eq_true] at e
   rw [Nat.eq_of_beq_eq_true e.1,zA9 e.2]
   exact ⟨rfl,h⟩
  ·cases h
 ·cases h
theorem znV {cs:List V} {off:Nat} {k:V→Option β} (h:zfy cs off k=some r):∃ v,cs[off]?=some v∧k v=some r:=by
 unfold zfy at h; split at h
 ·exact ⟨_,‹_›,h⟩
 ·cases h
theorem zJQ {es:List (List V)} {j:Int} {k:List V→Option β} (h:idx es j k=some r):0≤j∧∃ c,es[j.toNat]?=some c∧k c=some r:=by
 unfold idx at h; split at h
 ·split at h
  ·exact ⟨‹_›,_,‹_›,h⟩
  ·cases h
 ·cases h
theorem zJK {n:Nat} {a b:List V} {k:Bool→Option β} (h:eqC n a b k=some r):(a.length=n∧b.length=n)∧∃ t,ziB a b=some t∧k t=some r:=by
 unfold eqC at h; split at h
 ·split at h
  ·exact ⟨‹_›,_,‹_›,h⟩
  ·cases h
 ·cases h
theorem zIx {es:List (List V)} {k:ByteArray→Option β} (h:zIn es k=some r):∃ l,zhb es=some l∧k ⟨l.toArray⟩=some r:=by
 unfold zIn at h; split at h
 ·exact ⟨_,‹_›,h⟩
 ·cases h
theorem zta {cs:List V} {k:List V→Option β} (h:ztZ cs k=some r):∃ vs,cs.mapM V.plain=some vs∧k vs=some r:=by
 unfold ztZ at h; split at h
 ·exact ⟨_,‹_›,h⟩
 ·cases h
theorem zHe {cs:List V} {k:List V→Option β} (h:zGg cs k=some r):∃ vs,cs.mapM V.refd=some vs∧k vs=some r:=by
 unfold zGg at h
 split at h
 ·exact ⟨_,‹_›,h⟩
 ·cases h
theorem zeQ {o:Option St} {κ:St→Option β} (h:zmg o κ=some r):∃ σ,o=some σ∧κ σ=some r:=by
 unfold zmg at h; split at h
 ·exact ⟨_,rfl,h⟩
 ·cases h
theorem zj5 {b:List B} {v:V} {k:V→Option β} (h:zqz b v k=some r):∃ u,zbN b v=some u∧k u=some r:=by
 unfold zqz at h; split at h
 ·exact ⟨_,‹_›,h⟩
 ·cases h
theorem zBP {s:Sh} {v:V} {k:V→Option β} (h:asc s v k=some r):k v=some r:=by
 cases s with
 | any=>exact h
 | int kd=>obtain ⟨n,e,h'⟩:=zaC h; subst e; exact h'
 | bool=>obtain ⟨n,e,h'⟩:=ztI h; subst e; exact h'
 | str=>obtain ⟨n,e,h'⟩:=zHj h; subst e; exact h'
 | sl sz=>obtain ⟨n,e,h'⟩:=zZ h; subst e; exact h'
 | row l=>cases h
theorem zIi {s:Sh} {v:V} {k:V→Option β} (h:zJ8 s v k=some r):k v.dem=some r:=by
 cases s with
 | any=>exact h
 | int kd=>obtain ⟨n,e,h'⟩:=zaC h; subst e; exact h'
 | bool=>obtain ⟨n,e,h'⟩:=ztI h; subst e; exact h'
 | str=>obtain ⟨n,e,h'⟩:=zHj h; subst e; exact h'
 | sl sz=>obtain ⟨n,e,h⟩:=zJm h; rw [e]; exact h
 | row l=>cases h
theorem zAU:∀ {ss:List Sh} {i:Nat} {cs:List V} {k:List V→Option β},zDM ss i cs k=some r→i+ss.length=cs.length→k (cs.drop i)=some r
 | [],i,cs,k,h,hl=>by
  rw [List.drop_of_length_le (by simp at hl; omega)]
  exact h
 | s::ss,i,cs,k,h,hl=>by
  obtain ⟨v,e,h⟩:=znV h
  have h:=zAU (zBP h) (by simp at hl; omega)
  obtain ⟨hi,rfl⟩:=List.getElem?_eq_some_iff.1 e
  rw [List.drop_eq_getElem_cons hi]
  exact h
theorem ztB {s:Sh} {cs:List V} {k:List V→Option β} (h:zxJ s cs k=some r):k cs=some r:=by
 cases s with
 | row ss =>
  obtain ⟨hl,h⟩:=yO h
  have:=zAU h (by omega)
  simpa using this
 | _=>exact h
theorem zsE {s:Sh} {cs:List V} {off:Nat} {k:V→Option β} (h:zAb s cs off k=some r):∃ v,cs[off]?=some v∧k v=some r:=by
 obtain ⟨v,e,h⟩:=znV h; exact ⟨v,e,zBP h⟩
theorem zGr {s:Sh} {cs:List V} {off:Nat} {k:V→Option β} (h:zGZ s cs off k=some r):∃ v,cs[off]?=some v∧k v.dem=some r:=by
 obtain ⟨v,e,h⟩:=znV h; exact ⟨v,e,zIi h⟩
theorem zFh {v:Value} {k:Value→Option β} (h:ltV v k=some r):k v=some r:=by
 cases v <;> exact h
theorem zHE {t:Bool} {a b:V} {k:V→Option β} (h:zGn t a b k=some r):k (if t then a else b)=some r:=by
 unfold zGn at h
 split at h
 ·cases t <;> exact h
 ·split at h
  ·rename_i e; subst e; cases t <;> exact h
  ·cases h
 ·rcases ziA h with ⟨rfl,h⟩ | ⟨rfl,h⟩ <;> exact h
theorem zxC {σ:St}:∀ {ps:List (Nat × Nat × Src)} {cs:List V} {k:List V→Option β},zAj σ ps cs k=some r→∃ cs',zcG σ ps cs=some cs'∧k cs'=some r
 | [],cs,k,h=>⟨cs,rfl,h⟩
 | (off,n,x)::ps,cs,k,h=>by
  unfold zAj at h
  split at h
  ·rename_i v hv
   obtain ⟨hc,h⟩:=yO h
   obtain ⟨cs',e,h⟩:=zxC h
   refine ⟨cs',?_,h⟩
   simp only [zcG,hv,Option.bind_eq_bind,Option.bind_some,hc,and_self,if_true]
   exact e
  ·cases h
theorem zuC {sh:Nat→Sh} {σ:St}:∀ {ps:List (Nat × Nat × Src)} {cs:List V} {k:List V→Option β},zwU sh σ ps cs k=some r→∃ cs',zeG σ ps cs=some cs'∧k cs'=some r
 | [],cs,k,h=>⟨cs,rfl,h⟩
 | (off,n,x)::ps,cs,k,h=>by
  unfold zwU at h
  split at h
  ·rename_i us hx
   have h:=ztB h
   obtain ⟨hc,h⟩:=yO h
   obtain ⟨cs',e,h⟩:=zuC h
   refine ⟨cs',?_,h⟩
   simp only [zeG,hx,V.refd,V.plain,V.cells,Option.bind_eq_bind,Option.bind_some,hc,and_self,if_true]
   exact e
  ·split at h
   ·rename_i v hv
    obtain ⟨hc,h⟩:=yO h
    obtain ⟨cs',e,h⟩:=zuC h
    refine ⟨cs',?_,h⟩
    simp only [zeG,hv,Option.bind_eq_bind,Option.bind_some,hc,and_self,if_true]
    exact e
   ·cases h
theorem zIK {op:BinOp} {x y:Value} {k:Value→Option β} (h:zIv op x y k=some r):∃ z,zqt op x y=some z∧k z=some r:=by
 unfold zIv at h
 split at h
 ·obtain ⟨hc,h⟩:=yO h
  exact ⟨_,by simp only [zqt]; rw [if_neg (by omega)],h⟩
 ·obtain ⟨hc,h⟩:=yO h
  exact ⟨_,by simp only [zqt]; rw [if_neg (by omega)],h⟩
 ·split at h
  ·rename_i e; subst e
   obtain ⟨hc,h⟩:=yO h
   exact ⟨_,by simp [zqt,hc],h⟩
  ·cases h
 ·split at h
  ·rename_i e; subst e
   obtain ⟨hc,h⟩:=yO h
   exact ⟨_,by simp [zqt,hc],h⟩
  ·cases h
 ·split at h
  ·exact ⟨_,‹_›,h⟩
  ·cases h
theorem zu3 {σ:St} {x:Option Src} {dflt most:Nat} {k:Nat→Option β} (h:zxF σ x dflt most k=some r):∃ n,zpd σ x dflt most=some n∧k n=some r:=by
 unfold zxF at h
 split at h
 ·exact ⟨_,rfl,h⟩
 ·obtain ⟨kd,n,e,h⟩:=zj6 h
  obtain ⟨hc,h⟩:=yO h
  exact ⟨_,by simp [zpd,e,V.int?,hc],h⟩
theorem zs2 {σ:St} {len:Nat} {lo hi mx:Option Src} {k:Nat→Nat→Nat→Option β} (h:zxH σ len lo hi mx k=some r):∃ l hh m,zlp σ len lo hi mx=some (l,hh,m)∧k l hh m=some r:=by
 obtain ⟨m,e1,h⟩:=zu3 h
 obtain ⟨hh,e2,h⟩:=zu3 h
 obtain ⟨l,e3,h⟩:=zu3 h
 exact ⟨l,hh,m,by simp [zlp,e1,e2,e3],h⟩
end
def zks (c:CBC) (cb:CB):Prop:=∀ (β:Type) (f:Nat) (args:List V) (bor:Bor) (k:V→Bor→Option β) (r:β),c β f args bor k=some r→∃ v b,cb f args bor=some (v,b)∧k v b=some r
section
variable {β:Type} {r:β} {c:CBC} {cb:CB} {sh:Nat→Sh} {nb L:Nat}
theorem zDL {σ:St} {dst:Option Nat} {pin:Bool} {v:V} {κ:St→Option β} (h:zDA nb σ dst pin v κ=some r):∃ σ',σ.putR nb dst pin v=some σ'∧κ σ'=some r:=by
 cases v with
 | fr sz es =>
  cases pin with
  | true =>
   simp only [zDA] at h
   obtain ⟨σ',e,h⟩:=zeQ h
   exact ⟨σ',by simp only [St.putR]; exact e,h⟩
  | false=>exact ⟨_,by simp only [St.putR,St.putG,Bool.false_eq_true,if_false],h⟩
 | _=>exact zeQ h
theorem zGm (b:List B) (id:Nat) (κ:List B→Option β):zBR b id κ=κ (zal b id):=by
 unfold zBR zal
 split
 ·rename_i cs h
  cases cs with
  | nil=>simp [ifb,h]
  | cons c cs=>simp [ifb,h]
 ·rename_i h
  split
  ·rename_i c cs h2; exact absurd h2 (h _)
  ·rfl
theorem zqA (σ:St):∀ (srcs:List (Src × Nat)) (b:List B) (κ:List B→Option β),zq5 σ srcs b κ=κ (zy σ srcs b)
 | [],b,κ=>rfl
 | s::rest,b,κ=>by
  unfold zq5 zy
  by_cases h:2≤s.2
  ·rw [if_pos h]; simp only [h,decide_true]; exact zqA σ rest b κ
  ·rw [if_neg h]; simp only [h,decide_false]
   cases zaM (s.1.get σ) with
   | none=>exact zqA σ rest b κ
   | some id=>simp only [zGm]; exact zqA σ rest _ κ
theorem zuE (nb:Nat) {r:β}:∀ (fz:List Nat) (σ:St) (κ:St→Option β),zwY nb fz σ κ=some r→κ (zsY nb fz σ)=some r
 | [],σ,κ,h=>h
 | d::fz,σ,κ,h=>by
  unfold zwY at h
  unfold zsY
  split at h
  ·rename_i cs hb
   obtain ⟨hl,h⟩:=yO h
   have e:zal σ.b (nb+d)=σ.b.set (nb+d) (.fz cs):=by
    cases cs with
    | nil=>simp at hl
    | cons c cs=>unfold zal; rw [hb]
   rw [e]; exact zuE nb fz _ κ h
  ·rename_i hb
   have e:zal σ.b (nb+d)=σ.b:=by
    unfold zal
    split
    ·rename_i c cs h2; exact absurd h2 (hb _)
    ·rfl
   rw [e]; exact zuE nb fz _ κ h
theorem zAu (hc:zks c cb) {σ:St} {dst:Option Nat} {pin:Bool} {f:Nat} {args:List V} {srcs:List (Src × Nat)} {xs:List Nat} {κ:St→Option β} (h:zxS c nb σ dst pin f args srcs xs κ=some r):∃ σ',zdV cb nb σ dst pin f args srcs xs=some σ'∧κ σ'=some r:=by
 unfold zxS at h
 rw [zqA] at h
 simp only at h
 split at h
 ·cases h
 ·rename_i bor hb
  obtain ⟨v,b,e,h⟩:=hc _ _ _ _ _ _ h
  obtain ⟨hl,h⟩:=yO h
  split at h
  ·rename_i ht
   obtain ⟨σ',e2,h⟩:=zDL h
   refine ⟨σ',?_,h⟩
   simp only [Bool.and_eq_true,decide_eq_true_eq] at ht
   obtain ⟨t1,t2,t3,t4,t5,t6,t7,t8⟩:=ht
   unfold zdV
   simp only [hb,Option.bind_eq_bind,Option.bind_some,e]
   rw [if_pos ⟨hl,t1,t2,t3,t4,t5,t6,t7,t8⟩]
   exact e2
  ·cases h
theorem zJL {σ:St} {dst:Option Nat} {pin:Bool} {k:K} {κ:St→Option β} (hk:xk (fun _ _ _=>none) nb σ dst pin k=xk cb nb σ dst pin k) (h:zmg (xk (fun _ _ _=>none) nb σ dst pin k) κ=some r):∃ σ',xk cb nb σ dst pin k=some σ'∧κ σ'=some r:=by
 obtain ⟨σ',e,h⟩:=zeQ h
 exact ⟨σ',by rw [← hk]; exact e,h⟩
theorem St.set_same {σ:St} {j:Nat} {v:V} (h:σ.t[j]?=some v):({ σ with t:=σ.t.set j v }:St)=σ:=by
 have:σ.t.set j v=σ.t:=by
  apply List.ext_getElem?
  intro i
  rw [List.getElem?_set]
  split
  ·rename_i e; subst e
   split
   ·exact h.symm
   ·rename_i hlt
    rw [List.getElem?_eq_none (by omega)]
  ·rfl
 rw [this]
theorem zy2 (hc:zks c cb) {σ:St} {dst:Option Nat} {pin:Bool} {k:K} {κ:St→Option β} (h:zdr sh c nb σ dst pin k κ=some r):∃ σ',xk cb nb σ dst pin k=some σ'∧κ σ'=some r:=by
 cases k with
 | pick c a b =>
  obtain ⟨t,e,h⟩:=ztI h
  exact ⟨_,by simp only [xk,xx,e,V.bool?]; rfl,by have:=zHE h; cases t <;> exact this⟩
 | build zero parts =>
  obtain ⟨cs,e,h⟩:=zxC h
  exact ⟨_,by simp only [xk,xx,e]; rfl,h⟩
 | buildSt zero parts =>
  obtain ⟨cs,e,h⟩:=zuC h
  exact ⟨_,by simp only [xk,xx,e]; rfl,h⟩
 | box p x =>
  simp only [zdr] at h
  split at h
  ·rename_i cs hx
   cases p with
   | true=>cases h
   | false =>
    obtain ⟨σ',e,h⟩:=zeQ h
    exact ⟨σ',by simp only [xk,hx,Bool.false_eq_true,if_false]; exact e,h⟩
  ·rename_i hx
   split at h
   ·rename_i v hv
    have hk:∀ p,xk cb nb σ dst pin (.box p x)=σ.newB nb dst (.live p v.cells) (fun id=>.ptr id 0):=by
     intro p
     cases hxx:x.get σ with
     | st cs=>exact absurd hxx (hx cs)
     | _=>rw [hxx] at hv; simp only [xk,hxx,hv]
    cases p with
    | true =>
     obtain ⟨σ',e,h⟩:=zeQ h
     exact ⟨σ',by rw [hk]; exact e,h⟩
    | false =>
     obtain ⟨σ',e,h⟩:=zeQ (ztB h)
     exact ⟨σ',by rw [hk]; exact e,h⟩
   ·cases h
 | nilT neg x =>
  simp only [zdr] at h
  split at h
  ·rename_i sz es hx
   split at h
   ·rename_i t
    rcases ziA h with ⟨hq,h⟩ | ⟨hq,h⟩
    ·have he:es=[]:=by simpa using hq
     subst he
     have hget:∃ v,σ.t[t]?=some v∧Src.get σ (.tmp t)=v∧zIV v=v:=by
      simp only [Src.get,List.getD_eq_getElem?_getD] at hx ⊢
      cases ht:σ.t[t]? with
      | none=>rw [ht] at hx; simp [V.dem] at hx
      | some v =>
       rw [ht] at hx
       refine ⟨v,rfl,rfl,?_⟩
       have hx:v.dem=.sl sz []:=hx
       match v,hx with
       | .gs a es,hx =>
        have:es=[]:=by simp [V.dem] at hx; exact hx.2
        rw [this]; rfl
       | .sl a es,hx =>
        have:es=[]:=by simp [V.dem] at hx; exact hx.2
        rw [this]; rfl
       | .tup [],hx=>rfl
       | .tup (_::_),hx=>rfl
       | .sc _,hx=>rfl
       | .agg _,hx=>rfl
       | .own _ _ _ _,hx=>rfl
       | .ptr _ _,hx=>rfl
       | .fp _ _,hx=>rfl
       | .fn _ _,hx=>rfl
       | .bx _ _,hx=>rfl
       | .fr _ _,hx=>rfl
       | .ub,hx=>rfl
       | .junk,hx=>rfl
     obtain ⟨v,g1,g2,g3⟩:=hget
     simp only [lt] at h
     rw [g2,g3,St.set_same g1] at h
     exact ⟨_,by simp only [xk,xx,hx]; rfl,h⟩
    ·exact ⟨_,by simp only [xk,xx,hx,hq]; rfl,h⟩
   ·cases h
  ·cases h
 | un op x =>
  simp only [zdr] at h
  split at h
  ·rename_i a ha
   split at h
   ·rename_i z hz
    exact ⟨_,by simp only [xk,xx,ha,hz]; rfl,zFh h⟩
   ·cases h
  ·cases h
 | conv k x =>
  obtain ⟨kd,n,e,h⟩:=zj6 h
  exact ⟨_,by simp only [xk,xx,e,V.int?]; rfl,h⟩
 | mm isMax x y =>
  simp only [zdr] at h
  split at h
  ·rename_i k a k' b ha hb
   exact ⟨_,by simp only [xk,xx,ha,hb]; rfl,h⟩
  ·cases h
 | copy sz d s =>
  simp only [zdr] at h
  split at h
  ·rename_i id off len sz1 hd
   obtain ⟨u,e,h⟩:=zj5 h
   split at h
   ·rename_i sz2 es
    split at h
    ·rename_i cs hb
     obtain ⟨hc,h⟩:=yO h
     exact ⟨_,by simp only [xk,hd,e,hb]; rw [if_pos hc],h⟩
    ·cases h
   ·cases h
  ·cases h
 | buildSlice sz n zero parts =>
  obtain ⟨cs,e,h⟩:=zxC h
  split at h
  ·rename_i hc
   exact ⟨_,by simp only [xk,e,Option.bind_eq_bind,Option.bind_some]; rw [if_pos (of_decide_eq_true hc)],h⟩
  ·rename_i hc
   obtain ⟨σ',e2,h⟩:=zeQ h
   exact ⟨σ',by simp only [xk,e,Option.bind_eq_bind,Option.bind_some]; rw [if_neg (of_decide_eq_false hc)]; exact e2,h⟩
 | bin op x y =>
  simp only [zdr] at h
  split at h
  ·rename_i a b ha hb
   obtain ⟨z,e,h⟩:=zIK h
   exact ⟨_,by simp only [xk,xx,ha,hb,e]; rfl,zFh h⟩
  ·cases h
 | eqAgg neg n x y =>
  simp only [zdr] at h
  split at h
  ·rename_i a b ha hb
   obtain ⟨hl,t,e,h⟩:=zJK h
   exact ⟨_,by simp only [xk,xx,ha,hb,hl,and_self,if_true,e]; rfl,h⟩
  ·cases h
 | toStr x =>
  obtain ⟨u,e,h⟩:=zj5 h
  split at h
  ·obtain ⟨l,e2,h⟩:=zIx h
   exact ⟨_,by simp only [xk,xx,e,e2]; rfl,h⟩
  ·cases h
 | cmpB x y =>
  obtain ⟨u,e,h⟩:=zj5 h
  obtain ⟨v,e',h⟩:=zj5 h
  split at h
  ·unfold zKe at h
   split at h
   ·rename_i a ha
    split at h
    ·rename_i b hb
     exact ⟨_,by simp only [xk,xx,e,e',ha,hb]; rfl,h⟩
    ·cases h
   ·cases h
  ·cases h
 | makeSlice sz bytes zero l c =>
  obtain ⟨k1,l',e1,h⟩:=zj6 h
  obtain ⟨k2,c',e2,h⟩:=zj6 h
  cases pin with
  | true =>
   obtain ⟨hc,h⟩:=yO h
   obtain ⟨σ',e3,h⟩:=zeQ h
   exact ⟨σ',by simp only [xk,e1,e2,V.int?]; rw [if_pos ⟨hc.1,hc.2.1,hc.2.2.1,hc.2.2.2.1,fun _=>hc.2.2.2.2⟩]; exact e3,h⟩
  | false =>
   obtain ⟨hc,h⟩:=yO h
   obtain ⟨σ',e3,h⟩:=zeQ h
   exact ⟨σ',by simp only [xk,e1,e2,V.int?]; rw [if_pos ⟨hc.1,hc.2.1,hc.2.2.1,hc.2.2.2,fun q=>by cases q⟩]; exact e3,h⟩
 | sliceA n sz x lo hi mx =>
  obtain ⟨l,hh,m,e,h⟩:=zs2 h
  split at h
  ·rename_i id off hx
   split at h
   ·rename_i p cs hb
    obtain ⟨hl,h⟩:=yO h
    refine ⟨_,by simp only [xk,xx,e,Option.bind_eq_bind,Option.bind_some,hx,hb,hl,if_true,Option.map_some]; rfl,?_⟩
    rcases ziA h with ⟨q,h⟩ | ⟨q,h⟩
    ·rw [if_pos (by simpa using q)]; exact h
    ·rw [if_neg (by simpa using q)]; exact h
   ·rename_i cs hb
    obtain ⟨hl,h⟩:=yO h
    refine ⟨_,by simp only [xk,xx,e,Option.bind_eq_bind,Option.bind_some,hx,hb,hl,if_true,Option.map_some]; rfl,?_⟩
    rcases ziA h with ⟨q,h⟩ | ⟨q,h⟩
    ·rw [if_pos (by simpa using q)]; exact h
    ·rw [if_neg (by simpa using q)]; exact h
   ·cases h
  ·rename_i q cs hx
   obtain ⟨hl,h⟩:=yO h
   exact ⟨_,by simp only [xk,xx,e,Option.bind_eq_bind,Option.bind_some,hx,hl,if_true,Option.map_some],h⟩
  ·cases h
 | sliceS sz x lo hi mx =>
  simp only [zdr] at h
  split at h
  ·rename_i sz' es hx
   obtain ⟨l,hh,m,e,h⟩:=zs2 h
   obtain ⟨hs,h⟩:=yO h
   cases mx with
   | none=>exact ⟨σ.put dst (.sl sz ((es.drop l).take (hh - l))),by simp [xk,xx,e,hx,hs],h⟩
   | some s =>
    refine ⟨_,by simp only [xk,xx,e,hx,hs,Option.bind_eq_bind,Option.bind_some,if_true,Option.map_some]; rfl,?_⟩
    rcases ziA h with ⟨q,h⟩ | ⟨q,h⟩
    ·rw [if_pos ⟨by simp,by simpa using q⟩]; rw [← hs]; exact h
    ·rw [if_neg (by simpa using q)]; rw [← hs]; exact h
  ·rename_i id off len sz' hx
   obtain ⟨l,hh,m,e,h⟩:=zs2 h
   obtain ⟨hs,h2⟩:=yO h
   subst hs
   cases mx with
   | none=>exact ⟨_,by simp only [xk,xx,e,hx,Option.bind_eq_bind,Option.bind_some,if_true,Option.map_some,Option.isSome_none,Bool.false_eq_true,if_false],h2⟩
   | some s =>
    refine ⟨_,by simp only [xk,xx,e,hx,Option.bind_eq_bind,Option.bind_some,if_true,Option.map_some,Option.isSome_some]; rfl,?_⟩
    rcases ziA h2 with ⟨q,h⟩ | ⟨q,h⟩
    ·rw [if_pos (by simpa using q)]; exact h
    ·rw [if_neg (by simpa using q)]; exact h
  ·cases h
 | field agg o n x =>
  simp only [zdr] at h
  split at h
  ·rename_i cs hx
   cases agg with
   | true=>exact ⟨_,by simp [xk,xx,hx],h⟩
   | false =>
    obtain ⟨v,e,h⟩:=zsE h
    exact ⟨_,by simp [xk,xx,hx,e],h⟩
  ·rename_i cs hx
   cases agg with
   | true=>cases h
   | false =>
    simp only at h
    split at h
    ·rename_i v e
     exact ⟨_,by simp [xk,xx,hx,e],h⟩
    ·cases h
  ·cases h
 | indexAddrA len sz x i =>
  obtain ⟨k1,j,e1,h⟩:=zj6 h
  obtain ⟨hj,h⟩:=yO h
  split at h
  ·rename_i id off hx
   exact ⟨_,by simp [xk,xx,hx,e1,V.int?,hj],h⟩
  ·rename_i q cs hx
   obtain ⟨hl,h⟩:=yO h
   exact ⟨_,by simp [xk,xx,hx,e1,V.int?,hj,hl],h⟩
  ·cases h
 | indexAddrS sz x i =>
  obtain ⟨k1,j,e1,h⟩:=zj6 h
  split at h
  ·rename_i sz' es hx
   obtain ⟨hs,h2⟩:=yO h
   obtain ⟨hj,cc,e,h3⟩:=zJQ h2
   subst hs
   exact ⟨_,by simp [xk,xx,hx,e1,V.int?,hj,e],h3⟩
  ·rename_i id off len sz' hx
   obtain ⟨hs,h2⟩:=yO h
   obtain ⟨hj,h3⟩:=yO h2
   subst hs
   exact ⟨_,by simp [xk,xx,hx,e1,V.int?,hj],h3⟩
  ·cases h
 | indexA agg len sz x i =>
  obtain ⟨k1,j,e1,h⟩:=zj6 h
  obtain ⟨hj,h⟩:=yO h
  split at h
  ·rename_i cs hx
   cases agg with
   | true=>exact ⟨_,by simp [xk,xx,hx,e1,V.int?,hj],h⟩
   | false =>
    obtain ⟨v,e,h⟩:=zsE h
    exact ⟨_,by simp [xk,xx,hx,e1,V.int?,hj,e],h⟩
  ·cases h
 | load agg n a take =>
  simp only [zdr] at h
  split at h
  ·rename_i id off hx
   split at h
   ·rename_i p cs hb
    cases agg with
    | true =>
     obtain ⟨hl,h⟩:=yO h
     cases p with
     | true=>exact ⟨_,by simp [xk,hx,hb,hl],h⟩
     | false =>
      cases take with
      | true =>
       obtain ⟨vs,e,h⟩:=zHe h
       exact ⟨_,by simp [xk,hx,hb,hl,e],h⟩
      | false =>
       obtain ⟨vs,e,h⟩:=zta h
       exact ⟨_,by simp [xk,hx,hb,hl,e],h⟩
    | false =>
     cases take with
     | true =>
      cases p with
      | true=>cases h
      | false =>
       obtain ⟨v,e,h⟩:=znV h
       exact ⟨_,by simp [xk,hx,hb,e],h⟩
     | false =>
      obtain ⟨v,e,h⟩:=zGr h
      exact ⟨_,by simp [xk,hx,hb,e],h⟩
   ·rename_i cs hb
    cases agg with
    | true =>
     obtain ⟨hl,h⟩:=yO h
     exact ⟨_,by simp [xk,hx,hb,hl],h⟩
    | false =>
     obtain ⟨v,e,h⟩:=zsE h
     exact ⟨_,by simp [xk,hx,hb,e],h⟩
   ·cases h
  ·rename_i q cs hx
   cases agg with
   | true =>
    obtain ⟨hl,h⟩:=yO h
    exact ⟨_,by simp [xk,hx,hl],h⟩
   | false =>
    obtain ⟨v,e,h⟩:=zsE h
    exact ⟨_,by simp [xk,hx,e],h⟩
  ·cases h
 | store n a x =>
  cases dst with
  | some d=>cases h
  | none =>
  simp only [zdr] at h
  split at h
  ·rename_i id off hx
   split at h
   ·rename_i cs hb
    split at h
    ·rename_i v hv
     obtain ⟨hl,h⟩:=yO h
     exact ⟨_,by simp [xk,hx,hb,hv,hl],h⟩
    ·cases h
   ·rename_i cs hb
    cases hxv:x.get σ <;> simp only [hxv] at h
    case agg us =>
     obtain ⟨hl,h⟩:=yO (ztB h)
     exact ⟨_,by simp [xk,hx,hb,hxv,hl],h⟩
    case st us =>
     obtain ⟨hl,h⟩:=yO h
     exact ⟨_,by simp [xk,hx,hb,hxv,hl],h⟩
    case tup=>cases h
    case bx=>cases h
    case fr=>cases h
    case junk=>cases h
    all_goals
     obtain ⟨hl,h⟩:=yO h
     exact ⟨_,by simp [xk,hx,hb,hxv,hl],h⟩
   ·cases h
  ·cases h
 | append sz bytes s x =>
  simp only [zdr] at h
  split at h
  ·rename_i sz1 es hs
   obtain ⟨u,e,h⟩:=zj5 h
   split at h
   ·rename_i sz2 es2
    obtain ⟨⟨h1,h2⟩,h⟩:=yO h
    obtain ⟨h3,h⟩:=yO h
    cases pin with
    | true =>
     simp only at h
     split at h
     ·obtain ⟨σ',e3,h⟩:=zeQ h
      refine ⟨σ',?_,h⟩
      simp only [xk,hs,e]
      rw [if_pos ⟨h1,.inl h2,h3⟩]
      exact e3
     ·cases h
    | false =>
     refine ⟨_,?_,h⟩
     simp only [xk,hs,e]
     rw [if_pos ⟨h1,.inl h2,h3⟩]
     rfl
   ·cases h
  ·rename_i sz1 hs
   obtain ⟨u,e,h⟩:=zj5 h
   split at h
   ·rename_i sz2 es2
    obtain ⟨⟨h1,h2⟩,h⟩:=yO h
    obtain ⟨h3,h⟩:=yO h
    obtain ⟨σ',e3,h⟩:=zeQ h
    refine ⟨σ',?_,h⟩
    simp only [xk,hs,e]
    rw [if_pos ⟨h1,.inl h2,h3⟩]
    exact e3
   ·cases h
  ·rename_i id off len sz1 hs
   obtain ⟨u,e,h⟩:=zj5 h
   split at h
   ·rename_i sz2 es2
    split at h
    ·rename_i cs hb
     obtain ⟨⟨h1,h2,h0⟩,h⟩:=yO h
     obtain ⟨h3,h⟩:=yO h
     obtain ⟨σ',e3,h⟩:=zeQ h
     refine ⟨σ',?_,h⟩
     simp only [xk,hs,e,hb]
     rw [if_pos ⟨h1,.inl h2,h0,h3⟩]
     exact e3
    ·cases h
   ·cases h
  ·cases h
 | clear sz zero x =>
  simp only [zdr] at h
  split at h
  ·rename_i id off len sz1 hx
   split at h
   ·rename_i cs hb
    obtain ⟨h1,h⟩:=yO h
    exact ⟨_,by simp only [xk,hx,hb,h1,if_true],h⟩
   ·cases h
  ·cases h
 | appendZ sz bytes zero s x =>
  simp only [zdr] at h
  split at h
  ·rename_i sz1 es hs
   obtain ⟨kd,n,e,h⟩:=zj6 h
   obtain ⟨h1,h⟩:=yO h
   obtain ⟨h2,h⟩:=yO h
   cases pin with
   | true=>cases h
   | false =>
    refine ⟨_,?_,h⟩
    simp only [xk,hs,e,V.int?]
    rw [if_pos ⟨h1,h2⟩]
    rfl
  ·cases h
 | extract x i =>
  simp only [zdr] at h
  split at h
  ·rename_i vs hx
   split at h
   ·rename_i v t hvi
    split at h
    ·rename_i hall
     simp only [Bool.and_eq_true,decide_eq_true_eq] at hall
     split at h
     ·rename_i hh
      obtain ⟨σ',e,h⟩:=zDL h
      refine ⟨σ',?_,h⟩
      simp only [xk,hx,hvi]
      rw [if_pos hall,if_pos hh]
      exact e
     ·rename_i hh
      split at h
      ·cases h
      ·refine ⟨_,?_,h⟩
       simp only [xk,hx,hvi]
       rw [if_pos hall,if_neg (by simp [hh])]
       rfl
    ·cases h
   ·cases h
  ·cases h
 | call f args xs =>
  simp only [zdr] at h
  split at h
  ·rename_i vs e
   obtain ⟨σ',e2,h⟩:=zAu hc h
   exact ⟨σ',by simp only [xk,e]; exact e2,h⟩
  ·cases h
 | callv f args xs =>
  simp only [zdr] at h
  split at h
  ·rename_i g caps hg
   split at h
   ·rename_i vs e
    obtain ⟨σ',e2,h⟩:=zAu hc h
    exact ⟨σ',by simp only [xk,hg,e]; exact e2,h⟩
   ·cases h
  ·cases h
 | mlook kd ok zero x y =>
  simp only [zdr] at h
  split at h
  ·rename_i id hx
   split at h
   ·rename_i es hes
    unfold mAt at h
    split at h
    ·rename_i hko
     split at h
     ·rename_i q hq
      have h:=zBP h
      cases ok with
      | true=>exact ⟨_,by simp only [xk,hx,hes,hko,if_true,hq,Option.bind_eq_bind,Option.bind_some,Option.pure_def],h⟩
      | false=>exact ⟨_,by simp only [xk,hx,hes,hko,if_true,hq,Option.bind_eq_bind,Option.bind_some,Option.pure_def,Bool.false_eq_true,if_false],h⟩
     ·cases h
    ·cases h
   ·cases h
  ·cases h
 | mput kd x y z =>
  simp only [zdr] at h
  split at h
  ·cases h
  ·split at h
   ·rename_i id hx
    split at h
    ·rename_i es hes
     split at h
     ·rename_i v hv
      unfold zs5 at h
      split at h
      ·rename_i hko
       split at h
       ·rename_i q hq
        refine ⟨_,?_,h⟩
        simp only [xk,Option.isSome_none,Bool.false_eq_true,if_false,hx,hes,hko,if_true,hv,hq,Option.bind_eq_bind,Option.bind_some,Option.pure_def]
       ·cases h
      ·cases h
     ·cases h
    ·cases h
   ·cases h
 | _=>exact zJL rfl h
theorem zA2 (hc:zks c cb) {σ:St} {o:COp} {κ:St→St→Option β} (h:zxK sh c nb σ o κ=some r):∃ σ',xA cb nb σ o=some σ'∧κ σ σ'=some r:=by
 unfold zxK at h
 split at h
 ·rename_i hg
  obtain ⟨σ',e,h⟩:=zy2 hc h
  exact ⟨σ',by simp only [xA,hg,zbB]; exact e,h⟩
 ·rename_i j want hg
  split at h
  ·rename_i b hj
   cases want with
   | true =>
    rcases ziA h with ⟨rfl,h⟩ | ⟨rfl,h⟩
    ·simp only [lt] at h
     rw [St.set_same hj] at h
     obtain ⟨σ',e,h⟩:=zy2 hc h
     exact ⟨σ',by simp only [xA,hg,zbB,hj]; exact e,h⟩
    ·simp only [lt] at h
     rw [St.set_same hj] at h
     exact ⟨_,by simp only [xA,hg,zbB,hj]; rfl,h⟩
   | false =>
    rcases ziA h with ⟨rfl,h⟩ | ⟨rfl,h⟩
    ·simp only [lt] at h
     rw [St.set_same hj] at h
     exact ⟨_,by simp only [xA,hg,zbB,hj]; rfl,h⟩
    ·simp only [lt] at h
     rw [St.set_same hj] at h
     obtain ⟨σ',e,h⟩:=zy2 hc h
     exact ⟨σ',by simp only [xA,hg,zbB,hj]; exact e,h⟩
  ·rename_i hj
   exact ⟨_,by simp only [xA,hg,zbB,hj],h⟩
  ·cases h
theorem zy0 (hc:zks c cb):∀ {ops:List COp} {σ:St} {κ:St→Option β},zy1 sh c nb ops σ κ=some r→∃ σ',zkA cb nb ops σ=some σ'∧κ σ'=some r
 | [],σ,κ,h=>⟨σ,rfl,h⟩
 | o::ops,σ,κ,h=>by
  obtain ⟨σ1,e1,h⟩:=zA2 hc h
  obtain ⟨σ2,e2,h⟩:=zy0 hc h
  exact ⟨σ2,by simp only [zkA,e1,Option.bind_some]; exact e2,h⟩
theorem zCz (hc:zks c cb):∀ {ops:List (COp × Fl)} {σ:St} {κ:St→Option β},zEE sh c nb ops σ κ=some r→∃ σ',zoZ cb nb ops σ=some σ'∧κ σ'=some r
 | [],σ,κ,h=>⟨σ,rfl,h⟩
 | (o,q)::ops,σ,κ,h=>by
  obtain ⟨σ1,e1,h⟩:=zA2 hc h
  split at h
  ·rename_i hq
   obtain ⟨σ2,e2,h⟩:=zCz hc h
   exact ⟨σ2,by simp only [zoZ,e1,hq,if_true]; exact e2,h⟩
  ·cases h
theorem zEu {body:St→KT β→Option β} {bodyN:St→Option (Ex × St)} {norm:St→St} (hb:∀ σ K,body σ K=some r→∃ ex σ',bodyN σ=some (ex,σ')∧K ex σ'=some r):∀ (n:Nat) (σ:St) (K:KT β),yE body norm n (norm σ) K=some r→∃ ex σ',znz bodyN norm n σ=some (ex,σ')∧K ex σ'=some r
 | 0,σ,K,h=>by cases h
 | n+1,σ,K,h=>by
  obtain ⟨ex,σ1,e,h⟩:=hb _ _ h
  cases ex with
  | normal =>
   obtain ⟨ex,σ2,e2,h⟩:=zEu hb n σ1 K h
   exact ⟨ex,σ2,by simp only [znz,e]; exact e2,h⟩
  | exit j=>exact ⟨_,_,by simp only [znz,e],h⟩
  | ret=>exact ⟨_,_,by simp only [znz,e],h⟩
theorem zHY {σ σ':St} {dst:Option Nat} {pin:Bool} {k:K} (h:xk (fun _ _ _=>none) nb σ dst pin k=some σ'):xk cb nb σ dst pin k=some σ':=by
 cases k with
 | call f args xs =>
  simp only [xk,zdV,Option.bind_eq_bind,Option.bind_eq_some_iff,Prod.exists] at h
  obtain ⟨_,_,_,_,_,_,h,_⟩:=h
  cases h
 | callv f args xs =>
  simp only [xk] at h
  split at h
  ·simp only [zdV,Option.bind_eq_bind,Option.bind_eq_some_iff,Prod.exists] at h
   obtain ⟨_,_,_,_,_,_,h,_⟩:=h
   cases h
  ·cases h
 | _=>exact h
theorem zCi {σ σ':St} {o:COp} (h:xA (fun _ _ _=>none) nb σ o=some σ'):xA cb nb σ o=some σ':=by
 unfold xA at h ⊢
 split at h
 ·exact zHY h
 ·exact h
 ·cases h
theorem zz2:∀ {ops:List COp} {σ σ':St},zkA (fun _ _ _=>none) nb ops σ=some σ'→zkA cb nb ops σ=some σ'
 | [],σ,σ',h=>h
 | o::ops,σ,σ',h=>by
  simp only [zkA,Option.bind_eq_some_iff] at h ⊢
  obtain ⟨σ1,h1,h2⟩:=h
  exact ⟨σ1,zCi h1,zz2 h2⟩
theorem zEd:∀ {ops:List (COp × Fl)} {σ σ':St},zoZ (fun _ _ _=>none) nb ops σ=some σ'→zoZ cb nb ops σ=some σ'
 | [],σ,σ',h=>h
 | (o,q)::ops,σ,σ',h=>by
  simp only [zoZ] at h ⊢
  split at h
  ·rename_i σ1 h1
   rw [zCi h1]
   split at h
   ·rename_i hq
    simp only [hq,if_true]
    exact zEd h
   ·cases h
  ·cases h
theorem zAq:∀ (cc:CC) (σ:St) (r:Ex × St),run (fun _ _ _=>none) nb L cc σ=some r→run cb nb L cc σ=some r:=by
 intro cc
 induction cc with
 | skip=>intro σ r h; exact h
 | reg ops =>
  intro σ r h
  simp only [run,Option.map_eq_some_iff] at h ⊢
  obtain ⟨σ1,h1,h2⟩:=h
  exact ⟨σ1,zz2 h1,h2⟩
 | dreg fz ops =>
  intro σ r h
  simp only [run,Option.map_eq_some_iff] at h ⊢
  obtain ⟨σ1,h1,h2⟩:=h
  exact ⟨σ1,zEd h1,h2⟩
 | seq a b iha ihb =>
  intro σ r h
  simp only [run] at h ⊢
  split at h
  ·rename_i σ1 h1
   rw [iha _ _ h1]
   exact ihb _ _ h
  ·rename_i hne
   obtain ⟨ex,σ1⟩:=r
   rw [iha _ _ h]
   cases ex with
   | normal=>exact absurd h (hne _)
   | exit j=>rfl
   | ret=>rfl
 | fork p s a b ihp iha ihb =>
  intro σ r h
  simp only [run] at h ⊢
  split at h
  ·rename_i σ1 h1
   rw [ihp _ _ h1]
   simp only
   split at h
   ·split at h
    ·rename_i hs
     obtain ⟨e,_⟩:=zzy hs
     rw [iha _ _ (e.trans h),ihb _ _ h]
     rw [e,h] at hs
     simp only [hs,if_true]
    ·cases h
   ·split at h
    ·split at h
     ·rename_i σ2 h2
      rw [iha _ _ h2]
      exact ihb _ _ h
     ·rename_i hne
      obtain ⟨ex,σ2⟩:=r
      rw [iha _ _ h]
      cases ex with
      | normal=>exact absurd h (hne _)
      | exit j=>rfl
      | ret=>rfl
    ·exact ihb _ _ h
    ·cases h
  ·rename_i hne
   obtain ⟨ex,σ1⟩:=r
   rw [ihp _ _ h]
   cases ex with
   | normal=>exact absurd h (hne _)
   | exit j=>rfl
   | ret=>rfl
 | cond s a b iha ihb =>
  intro σ r h
  simp only [run] at h ⊢
  split at h
  ·split at h
   ·rename_i hs
    have e:=zvp hs
    rw [iha _ _ (e.trans h),ihb _ _ h]
    rw [e,h] at hs
    simp only [hs,if_true]
   ·cases h
  ·rename_i hne
   split at h
   ·rename_i t ht
    cases t with
    | true=>simp only [if_true] at h ⊢; exact iha _ _ h
    | false=>simp only [Bool.false_eq_true,if_false] at h ⊢; exact ihb _ _ h
   ·cases h
 | block id a ih =>
  intro σ r h
  simp only [run] at h ⊢
  cases ha:run (fun _ _ _=>none) nb L a σ with
  | none=>rw [ha] at h; cases h
  | some q=>rw [ha] at h; rw [ih _ _ ha]; exact h
 | loop kt kb a ih =>
  intro σ r h
  simp only [run] at h ⊢
  have key:∀ (n:Nat) (σ:St),znz (run (fun _ _ _=>none) nb L a) (zae nb kt kb) n σ=some r→znz (run cb nb L a) (zae nb kt kb) n σ=some r:=by
   intro n
   induction n with
   | zero=>intro σ h; cases h
   | succ n ihn =>
    intro σ h
    simp only [znz] at h ⊢
    cases ha:run (fun _ _ _=>none) nb L a (zae nb kt kb σ) with
    | none=>rw [ha] at h; cases h
    | some q =>
     obtain ⟨ex,σ1⟩:=q
     rw [ha] at h
     rw [ih _ _ ha]
     cases ex with
     | normal=>exact ihn _ h
     | exit j=>exact h
     | ret=>exact h
  exact key L σ h
 | mask kt kb=>intro σ r h; exact h
 | exit id=>intro σ r h; exact h
 | ret=>intro σ r h; exact h
theorem zJH (hc:zks c cb):∀ (cc:CC) (σ:St) (K:KT β),yo sh c nb L cc σ K=some r→∃ ex σ',run cb nb L cc σ=some (ex,σ')∧K ex σ'=some r:=by
 intro cc
 induction cc with
 | skip=>intro σ K h; exact ⟨_,_,rfl,h⟩
 | reg ops =>
  intro σ K h
  obtain ⟨σ',e,h⟩:=zy0 hc h
  exact ⟨_,σ',by simp only [run,e]; rfl,h⟩
 | dreg fz ops =>
  intro σ K h
  obtain ⟨σ',e,h⟩:=zCz hc (zuE nb fz σ _ h)
  exact ⟨_,σ',by simp only [run,e]; rfl,h⟩
 | seq a b iha ihb =>
  intro σ K h
  obtain ⟨ex,σ1,e,h⟩:=iha _ _ h
  cases ex with
  | normal =>
   obtain ⟨ex,σ2,e2,h⟩:=ihb _ _ h
   exact ⟨ex,σ2,by simp only [run,e]; exact e2,h⟩
  | exit j=>exact ⟨_,_,by simp only [run,e],h⟩
  | ret=>exact ⟨_,_,by simp only [run,e],h⟩
 | fork p s a b ihp iha ihb =>
  intro σ K h
  obtain ⟨ex,σ1,e,h⟩:=ihp _ _ h
  cases ex with
  | exit j=>exact ⟨_,_,by simp only [run,e],h⟩
  | ret=>exact ⟨_,_,by simp only [run,e],h⟩
  | normal =>
   simp only [yU] at h
   split at h
   ·rename_i hub
    split at h
    ·rename_i hsame
     unfold onR at h
     split at h
     ·rename_i ex σ2 e1
      obtain ⟨e0,_⟩:=zzy hsame
      have ra:=zAq (cb:=cb) _ _ _ (e0.trans e1)
      have rb:=zAq (cb:=cb) _ _ _ e1
      rw [e0,e1] at hsame
      refine ⟨ex,σ2,?_,h⟩
      simp only [run,e,hub,ra,rb,hsame,if_true]
     ·cases h
    ·cases h
   ·rename_i hne
    obtain ⟨t,et,h⟩:=ztI h
    rcases ziA h with ⟨rfl,h⟩ | ⟨rfl,h⟩
    ·obtain ⟨ex,σ2,e1,h⟩:=iha _ _ h
     cases ex with
     | normal =>
      obtain ⟨ex,σ3,e2,h⟩:=ihb _ _ h
      exact ⟨ex,σ3,by simp only [run,e,et,V.bool?,e1]; exact e2,h⟩
     | exit j=>exact ⟨_,_,by simp only [run,e,et,V.bool?,e1],h⟩
     | ret=>exact ⟨_,_,by simp only [run,e,et,V.bool?,e1],h⟩
    ·obtain ⟨ex,σ2,e1,h⟩:=ihb _ _ h
     exact ⟨ex,σ2,by simp only [run,e,et,V.bool?]; exact e1,h⟩
 | cond s a b iha ihb =>
  intro σ K h
  simp only [yo] at h
  split at h
  ·rename_i hub
   split at h
   ·rename_i hsame
    unfold onR at h
    split at h
    ·rename_i ex σ1 e1
     have e0:=zvp hsame
     have ra:=zAq (cb:=cb) _ _ _ (e0.trans e1)
     have rb:=zAq (cb:=cb) _ _ _ e1
     rw [e0,e1] at hsame
     refine ⟨ex,σ1,?_,h⟩
     simp only [run,hub,ra,rb,hsame,if_true]
    ·cases h
   ·cases h
  ·rename_i hne
   obtain ⟨t,e,h⟩:=ztI h
   rcases ziA h with ⟨rfl,h⟩ | ⟨rfl,h⟩
   ·obtain ⟨ex,σ1,e1,h⟩:=iha _ _ h
    exact ⟨ex,σ1,by simp only [run,e,V.bool?,if_true]; exact e1,h⟩
   ·obtain ⟨ex,σ1,e1,h⟩:=ihb _ _ h
    exact ⟨ex,σ1,by simp only [run,e,V.bool?,Bool.false_eq_true,if_false]; exact e1,h⟩
 | block id a ih =>
  intro σ K h
  obtain ⟨ex,σ1,e,h⟩:=ih _ _ h
  cases ex with
  | normal=>exact ⟨_,_,by simp only [run,e],h⟩
  | exit j =>
   simp only [xG] at h
   split at h
   ·rename_i hj
    have hj:=Nat.eq_of_beq_eq_true hj
    exact ⟨_,_,by simp only [run,e,hj,if_true],h⟩
   ·rename_i hj
    have:j≠id:=Nat.ne_of_beq_eq_false hj
    exact ⟨_,_,by simp only [run,e,this,if_false],h⟩
  | ret=>exact ⟨_,_,by simp only [run,e],h⟩
 | loop kt kb a ih =>
  intro σ K h
  obtain ⟨ex,σ',e,h⟩:=zEu ih L σ K h
  exact ⟨ex,σ',by simp only [run]; exact e,h⟩
 | mask kt kb=>intro σ K h; exact ⟨_,_,rfl,h⟩
 | exit id=>intro σ K h; exact ⟨_,_,rfl,h⟩
 | ret=>intro σ K h; exact ⟨_,_,rfl,h⟩
theorem zzQ {σ:St} {rv:RV} {k:V→Option β} (h:zq1 nb σ rv k=some r):∃ v,zaX nb σ rv=some v∧k v=some r:=by
 cases rv with
 | cellS t n p=>cases h
 | tmp t =>
  simp only [zq1] at h
  split at h
  ·rename_i id off len sz ht
   split at h
   ·rename_i hge
    have hge:=of_decide_eq_true hge
    split at h
    ·rename_i cs hb
     split at h
     ·rename_i hd
      have hd:=of_decide_eq_true hd
      obtain ⟨hl,h⟩:=yO h
      exact ⟨_,by simp only [zaX,ht]; rw [if_pos hge,if_pos hd]; simp only [hb]; rw [if_pos hl],h⟩
     ·cases h
    ·cases h
   ·rename_i hge
    have hge:=of_decide_eq_false hge
    exact ⟨_,by simp only [zaX,ht]; rw [if_neg hge],h⟩
  ·rename_i id off ht
   split at h
   ·rename_i p cs hb
    split at h
    ·rename_i hd
     have hd:=of_decide_eq_true hd
     obtain ⟨hl,h⟩:=yO h
     cases p with
     | true=>exact ⟨_,by simp only [zaX,ht]; rw [if_pos hd]; simp only [hb]; rw [if_pos hl]; rfl,h⟩
     | false =>
      obtain ⟨vs,e,h⟩:=zta h
      exact ⟨_,by simp only [zaX,ht]; rw [if_pos hd]; simp only [hb]; rw [if_pos hl]; simp only [Bool.false_eq_true,if_false,e,Option.map_some],h⟩
    ·cases h
   ·cases h
  ·split at h
   ·exact ⟨_,‹_›,h⟩
   ·cases h
 | tmpP t =>
  simp only [zq1] at h
  split at h
  ·rename_i id off len sz ht
   split at h
   ·rename_i hge
    have hge:=of_decide_eq_true hge
    split at h
    ·rename_i cs hb
     exact ⟨_,by simp only [zaX,ht]; rw [if_pos hge]; simp only [hb],h⟩
    ·cases h
   ·cases h
  ·split at h
   ·exact ⟨_,‹_›,h⟩
   ·cases h
 | cell t agg n =>
  simp only [zq1] at h
  split at h
  ·rename_i id off ht
   split at h
   ·rename_i p cs hb
    cases agg with
    | true =>
     obtain ⟨hl,h⟩:=yO h
     cases p with
     | true=>exact ⟨_,by simp only [zaX,ht,hb,if_true]; rw [if_pos hl],h⟩
     | false =>
      obtain ⟨vs,e,h⟩:=zta h
      exact ⟨_,by simp only [zaX,ht,hb,if_true]; rw [if_pos hl]; simp only [Bool.false_eq_true,if_false,e,Option.map_some],h⟩
    | false =>
     simp only at h
     split at h
     ·rename_i hd
      have hd:=of_decide_eq_true hd
      obtain ⟨v,e,h⟩:=znV h
      split at h
      ·rename_i v' hv
       exact ⟨_,by simp only [zaX,ht,hb,Bool.false_eq_true,if_false,hd,and_self,if_true,e,Option.bind_some]; exact hv,h⟩
      ·cases h
     ·cases h
   ·cases h
  ·cases h
theorem zyW {σ:St}:∀ {rs:List RV} {k:List V→Option β},zzh nb σ rs k=some r→∃ vs,rs.mapM (zaX nb σ)=some vs∧k vs=some r
 | [],k,h=>⟨[],rfl,h⟩
 | x::rs,k,h=>by
  obtain ⟨v,e,h⟩:=zzQ h
  obtain ⟨vs,e2,h⟩:=zyW h
  exact ⟨v::vs,by simp [List.mapM_cons,e,e2],h⟩
theorem zEY {σ:St} {rs:List RV} {k:V→Option β} (h:zu2 nb σ rs k=some r):∃ v,results nb σ rs=some v∧k v=some r:=by
 unfold zu2 at h
 split at h
 ·rename_i hd
  split at h
  ·obtain ⟨v,e,h⟩:=zzQ h
   exact ⟨v,by simp only [results,hd,if_true]; exact e,h⟩
  ·rename_i hne
   obtain ⟨vs,e,h⟩:=zyW h
   refine ⟨.tup vs,?_,h⟩
   simp only [results,hd,if_true,e,Option.map_some]
 ·cases h
theorem zuk {b:List B} {ids:List Nat}:∀ {l:List Nat} {k:Bor→Option β},zxh b nb ids l k=some r→∃ bor,zo3 b nb ids l=some bor∧k bor=some r
 | [],k,h=>⟨[],rfl,h⟩
 | id::l,k,h=>by
  simp only [zxh] at h
  split at h
  ·rename_i p cs hb
   cases p with
   | true =>
    obtain ⟨bor,e,h⟩:=zuk (l:=l) h
    exact ⟨_,by simp only [zo3,hb,B.lend,B.isRow,Bool.true_or,Bool.or_true,Bool.and_self,if_true,e,Option.map_some,B.ren],h⟩
   | false =>
    simp only at h
    split at h
    ·rename_i hd
     obtain ⟨hl,h⟩:=yO h
     obtain ⟨bor,e,h⟩:=zuk (l:=l) h
     exact ⟨_,by simp only [zo3,hb,B.lend,Bool.false_or,hl,hd,Bool.true_or,Bool.and_self,if_true,e,Option.map_some,B.ren,Bool.false_eq_true,if_false],h⟩
    ·cases h
  ·rename_i es hb
   split at h
   ·rename_i hd
    obtain ⟨bor,e,h⟩:=zuk (l:=l) h
    exact ⟨_,by simp only [zo3,hb,B.lend,hd,Bool.true_or,Bool.and_self,if_true,e,Option.map_some,B.ren],h⟩
   ·cases h
  ·rename_i n hb
   split at h
   ·rename_i hd
    obtain ⟨bor,e,h⟩:=zuk (l:=l) h
    exact ⟨_,by simp only [zo3,hb,B.lend,hd,Bool.true_or,Bool.and_self,if_true,e,Option.map_some,B.ren],h⟩
   ·cases h
  ·cases h
theorem zFq {σ:St} {rs:List RV} {k:V→Bor→Option β} (h:(match zjf σ.t.length rs σ with
  | some (σ,rs)=>zu2 nb σ rs fun v=>zxh σ.b nb (zeT nb v) (zeT nb v) fun b=>match zfu (zeT nb v) with
   | true=>k (znB (yS (zeT nb v)) v) b
   | false=>none
  | none=>none)=some r):∃ v b,zul nb σ rs=some (v,b)∧k v b=some r:=by
 split at h
 rotate_left
 ·cases h
 rename_i σ1 rs1 hu
 obtain ⟨v,e1,h⟩:=zEY h
 obtain ⟨b,e2,h⟩:=zuk h
 split at h
 ·rename_i hd
  refine ⟨_,b,?_,h⟩
  simp only [zul,hu,zxN,e1,e2,Option.bind_eq_bind,Option.bind_some,hd,if_true,Option.pure_def]
 ·cases h
theorem zJe {T:Nat→Option CF} {pr:CB} {d:Nat} {f:Nat} (hc:zks c (evF T pr L d)) {cf:CF} (hT:T f=some cf) {args:List V} {bor:Bor} {k:V→Bor→Option β} (h:zt sh c L cf args bor k=some r):∃ v b,evF T pr L (d+1) f args bor=some (v,b)∧k v b=some r:=by
 have h:zDz sh c L cf args bor k=some r:=by
  unfold zt at h
  split at h
  ·rename_i sz es rest _
   cases es with
   | nil=>exact h
   | cons a l=>exact h
  ·exact h
 obtain ⟨ex,σ',e,h⟩:=zJH hc _ _ _ h
 cases ex with
 | exit j=>cases h
 | normal =>
  obtain ⟨v,b,e1,h⟩:=zFq h
  exact ⟨v,b,by simp only [evF,hT,e,e1],h⟩
 | ret =>
  obtain ⟨v,b,e1,h⟩:=zFq h
  exact ⟨v,b,by simp only [evF,hT,e,e1],h⟩
def FOk (T:Nat→Option CF) (L g:Nat) (d:∀ (β:Type),List V→Bor→(V→Bor→Option β)→Option β) (D:Nat):Prop:=∀ n,D≤n→∀ (β:Type) (args:List V) (bor:Bor) (k:V→Bor→Option β) (r:β),d β args bor k=some r→∃ v b,evF T (fun _ _ _=>none) L n g args bor=some (v,b)∧k v b=some r
theorem xE {cb:CB}:zks noC cb:=by
 intro β f args bor k r h; cases h
theorem xn {c:CBC} {cb:CB} (hc:zks c cb) {g:Nat} {d:∀ (β:Type),List V→Bor→(V→Bor→Option β)→Option β} (hd:∀ (β:Type) (args:List V) (bor:Bor) (k:V→Bor→Option β) (r:β),d β args bor k=some r→∃ v b,cb g args bor=some (v,b)∧k v b=some r):zks (zw g d c) cb:=by
 intro β f args bor k r h
 unfold zw at h
 split at h
 ·rename_i hf
  rw [Nat.eq_of_beq_eq_true hf]
  exact hd _ _ _ _ _ h
 ·exact hc _ _ _ _ _ _ h
theorem zu9 {c:CBC} {cb:CB} (hc:zks c cb) {g:Nat} {tags:List Nat} {d:∀ (β:Type),List V→Bor→(V→Bor→Option β)→Option β} (hd:∀ (β:Type) (args:List V) (bor:Bor) (k:V→Bor→Option β) (r:β),d β args bor k=some r→∃ v b,cb g args bor=some (v,b)∧k v b=some r):zks (zBf g tags d c) cb:=by
 intro β f args bor k r h
 unfold zBf at h
 split at h
 ·rename_i hf
  simp only [Bool.and_eq_true] at hf
  rw [Nat.eq_of_beq_eq_true hf.1]
  exact hd _ _ _ _ _ h
 ·exact hc _ _ _ _ _ _ h
theorem zF {T:Nat→Option CF} {L g:Nat} {cf:CF} (hT:T g=some cf) {d:∀ (β:Type),List V→Bor→(V→Bor→Option β)→Option β} {D:Nat}
  (h:∀ m,D≤m→∃ (sh:Nat→Sh) (c:CBC),zks c (evF T (fun _ _ _=>none) L m)∧∀ (β:Type) (args:List V) (bor:Bor) (k:V→Bor→Option β) (r:β),d β args bor k=some r→zt sh c L cf args bor k=some r):FOk T L g d (D+1):=by
 intro n hn β args bor k r hr
 obtain ⟨m,rfl⟩:∃ m,n=m+1:=⟨n - 1,by omega⟩
 obtain ⟨sh,c,hc,hd⟩:=h m (by omega)
 exact zJe hc hT (hd _ _ _ _ _ hr)
end
end
section
set_option linter.unusedVariables false
set_option linter.unusedSimpArgs false
section
variable {β:Type}
theorem zA {α:Type} (a:α) (k:α→Option β):lt a k=k a:=Eq.trans rfl rfl
theorem xc {p:Prop} {inst:Decidable p} (h:p) (k:Option β):@chk β p inst k=k:=if_pos h
theorem zlO {inst:Decidable True} (k:Option β):@chk β True inst k=k:=if_pos trivial
theorem zeE (a b:Option β):ifb true a b=a:=rfl
theorem zaQ (a b:Option β):ifb false a b=b:=rfl
theorem zaq {p:Prop} {inst:Decidable p} (a b:Option β):ifb (@decide p inst) a b=if p then a else b:=by
 by_cases h:p <;> simp [ifb,h]
theorem zaI {p:Prop} {inst:Decidable p} (h:p) (a b:Option β):ifb (@decide p inst) a b=a:=by rw [zaq,if_pos h]
theorem za2 {p:Prop} {inst:Decidable p} (h:¬ p) (a b:Option β):ifb (@decide p inst) a b=b:=by rw [zaq,if_neg h]
theorem xI {kd:IntKind} {cs:List V} {off:Nat} {n:Int} (h:cs[off]?=some (.sc (.int kd n))) (k:Int→Option β):cI kd cs off k=k n:=by
 simp [cI,zfy,h,aI]
theorem zxR {sz:Nat} {cs:List V} {off:Nat} {es:List (List V)} (h:cs[off]?=some (.sl sz es)) (k:List (List V)→Option β):cL sz cs off k=k es:=by
 simp [cL,zfy,h,aL]
theorem zc6 {sz:Nat} {cs:List V} {off:Nat} {es:List (List V)} (h:cs[off]?=some (.sl sz es)) (k:List (List V)→Option β):cLd sz cs off k=k es:=by
 simp [cLd,zfy,h,aLd]
theorem zIu {es:List (List V)} {j:Int} {c:List V} (h0:0≤j) (h:es[j.toNat]?=some c) (k:List V→Option β):idx es j k=k c:=by
 simp [idx,h0,h]
theorem za3 {es:List (List V)} {j:Nat} {c:List V} (h:es[j]?=some c) (k:List V→Option β):idx es (j:Int) k=k c :=
 zIu (Int.natCast_nonneg j) (by simpa using h) k
end
theorem zaf {n:Int} (h1:-9223372036854775808≤n) (h2:n≤9223372036854775807):IntKind.wrap .i64 n=n:=IntWalk.i64_in _ ⟨h1,h2⟩
theorem zHp {k:IntKind} {n:Int} (hk:k.signed=false) (h1:0≤n) (h2:n < 2 ^ k.bits):IntKind.wrap k n=n:=by
 unfold IntKind.wrap
 simp only [hk,Bool.false_and,Bool.false_eq_true,if_false]
 exact Int.emod_eq_of_lt h1 h2
theorem zDW {n:Int} (h1:0≤n) (h2:n≤18446744073709551615):IntKind.wrap .u64 n=n:=zHp rfl h1 (Int.lt_of_le_of_lt h2 (by decide))
theorem zIp {n:Int} (h1:0≤n) (h2:n≤4294967295):IntKind.wrap .u32 n=n:=zHp rfl h1 (Int.lt_of_le_of_lt h2 (by decide))
def zaP (k:IntKind) (l:List Int):List (List V):=l.map fun n=>[.sc (.int k n)]
theorem zeJ (k:IntKind) (l:List Int):(zaP k l).length=l.length:=by simp [zaP]
theorem zzC (k:IntKind) {l:List Int} {i:Nat} (h:i < l.length):(zaP k l)[i]?=some [.sc (.int k l[i])]:=by simp [zaP,h]
theorem zxm (k:IntKind) (l:List Int) (i:Nat):(zaP k l).drop i=zaP k (l.drop i):=by simp [zaP,List.map_drop]
theorem zxr (k:IntKind) (l:List Int) (i:Nat):(zaP k l).take i=zaP k (l.take i):=by simp [zaP,List.map_take]
theorem zEk (k:IntKind) (l m:List Int):zaP k l++zaP k m=zaP k (l++m):=by simp [zaP]
theorem HasRow.int1 {k:IntKind} {e:List V} (h:HasRow [.int k] e):∃ n,e=[.sc (.int k n)]∧(Lit.int k n).wf=true:=by
 obtain ⟨h1,h2⟩:=h
 match e,h1 with
 | [v],_ =>
  obtain ⟨n,rfl,hn⟩:=(h2 0 v _ rfl rfl).int_inv
  exact ⟨n,rfl,hn⟩
theorem zBI {k:IntKind}:∀ {es:List (List V)},(∀ e ∈ es,HasRow [.int k] e)→∃ l:List Int,es=zaP k l∧∀ n ∈ l,(Lit.int k n).wf=true
 | [],_=>⟨[],rfl,by simp⟩
 | e::es,h=>by
  obtain ⟨n,rfl,hn⟩:=(h e (by simp)).int1
  obtain ⟨l,rfl,hl⟩:=zBI (es:=es) (fun x hx=>h x (by simp [hx]))
  exact ⟨n::l,rfl,by simpa [hn] using hl⟩
def row (k:IntKind) (l:List Int):List V:=l.map fun n=>.sc (.int k n)
theorem zcq (k:IntKind) (l:List Int):(row k l).length=l.length:=by simp [row]
theorem znm (k:IntKind):∀ (n:Nat) (l:List Int),n≤l.length→yl 1 n (row k l)=zaP k (l.take n)
 | 0,l,_=>by simp [yl,zaP]
 | n+1,[],h=>by simp at h
 | n+1,x::l,h=>by
  have:=znm k n l (by simpa using h)
  simp only [row] at this
  simp [yl,row,zaP,this]
theorem zEB (k:IntKind) (l:List Int) (i:Nat):(row k l).drop i=row k (l.drop i):=by simp [row,List.map_drop]
end
section
set_option linter.unusedVariables false
set_option linter.unusedSimpArgs false
theorem zda {cs new:List V} (h:new.length=cs.length):xg cs 0 new=new:=by
 simp [xg,h]
theorem zze {β:Type} {p:Prop} {inst:Decidable p} (a b:Option β):ifb (!(@decide p inst)) a b=if p then b else a:=by
 by_cases h:p <;> simp [ifb,h]
theorem zq6 {β:Type} (x y:Int) (a b:Option β):ifb (x != y) a b=if x=y then b else a:=by
 by_cases h:x=y
 ·subst h; simp [ifb]
 ·rw [bne_iff_ne.2 h,if_neg h]; rfl
theorem zhr {β:Type} (x y:Int) (a b:Option β):ifb (x == y) a b=if x=y then a else b:=by
 by_cases h:x=y
 ·subst h; simp [ifb]
 ·rw [beq_eq_false_iff_ne.2 h,if_neg h]; rfl
end
section
set_option linter.unusedVariables false
set_option linter.unusedSimpArgs false
theorem zxE {sz:Nat} {es:List (List V)} (h:∀ e ∈ es,e.length=sz) {w:Nat} (hw:w≤es.length):yl sz w es.flatten=es.take w:=by
 induction w generalizing es with
 | zero=>simp [yl]
 | succ w ih =>
  cases es with
  | nil=>simp at hw
  | cons e es =>
   have he:=h e (by simp)
   have:=ih (es:=es) (fun x hx=>h x (by simp [hx])) (by simpa using hw)
   simp only [yl,List.flatten_cons,List.take_succ_cons]
   rw [List.take_append_of_le_length (by omega),List.take_of_length_le (by omega),List.drop_append_of_le_length (by omega),List.drop_of_length_le (by omega),List.nil_append,this]
def zeM {α:Type} (p:α→Bool):List α→Nat→Int
 | [],_=>-1
 | x::l,i=>if p x=true then (i:Int) else zeM p l (i+1)
theorem zpk {α:Type} (p:α→Bool):∀ (l:List α) (a:Nat),(zeM p l a=-1∧∀ x ∈ l,p x=false)∨∃ (i:Nat),∃ h:i < l.length,zeM p l a=((a+i:Nat):Int)∧(∀ x ∈ l.take i,p x=false)∧p l[i]=true
 | [],a=>.inl ⟨rfl,by simp⟩
 | x::l,a=>by
  by_cases hx:p x=true
  ·exact .inr ⟨0,by simp,by simp [zeM,hx],by simp,by simpa using hx⟩
  ·have hx':p x=false:=by simpa using hx
   rcases zpk p l (a+1) with ⟨h1,h2⟩ | ⟨i,hi,h1,h2,h3⟩
   ·refine .inl ⟨by simp [zeM,hx',h1],?_⟩
    intro y hy
    rcases List.mem_cons.1 hy with rfl | hy
    ·exact hx'
    ·exact h2 y hy
   ·refine .inr ⟨i+1,by simpa using hi,?_,?_,by simpa using h3⟩
    ·simp only [zeM,hx',h1]; simp; omega
    ·intro y hy
     simp only [List.take_succ_cons,List.mem_cons] at hy
     rcases hy with rfl | hy
     ·exact hx'
     ·exact h2 y hy
theorem zFk {α:Type} (p:α→Bool) (l:List α) (a:Nat):decide (zeM p l a ≥ 0)=l.any p:=by
 rcases zpk p l a with ⟨h1,h2⟩ | ⟨i,hi,h1,h2,h3⟩
 ·rw [h1]
  have:l.any p=false:=by
   rw [List.any_eq_false]
   intro x hx; rw [h2 x hx]; simp
  rw [this]; rfl
 ·rw [h1]
  have:l.any p=true:=List.any_eq_true.2 ⟨_,List.getElem_mem hi,h3⟩
  rw [this]
  exact decide_eq_true (by omega)
theorem zab {i:Nat} (h:i≤1000000000):IntKind.wrap .i64 ((i:Int)+1)=((i+1:Nat):Int):=by
 rw [zaf (by omega) (by omega)]; omega
end
end Go.Proofs.Ytpafdnidhnldhaa
