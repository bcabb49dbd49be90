/- Part 7 of the proof of RelayBegins: an abstract machine over plain values, its soundness, and the functions of the program on plain values. -/
import Derived.Test.YtpbbfpfmdckclaaMRelayBegins6
namespace Go.Proofs.Ytpbbfpfmdckclaa
section
def hi0 (n:Nat):Nat:=n
def hi1 (n:Nat):Nat:=hi0 n
def hi2 (n:Nat):Nat:=hi1 n
def hi3 (n:Nat):Nat:=hi2 n
def hi4 (n:Nat):Nat:=hi3 n
def hi5 (n:Nat):Nat:=hi4 n
def hi6 (n:Nat):Nat:=hi5 n
def hi7 (n:Nat):Nat:=hi6 n
def hi8 (n:Nat):Nat:=hi7 n
def hi9 (n:Nat):Nat:=hi8 n
def zD3 (n:Nat):Nat:=hi9 n
def zEm (n:Nat):Nat:=zD3 n
def zEi (n:Nat):Nat:=zEm n
def zEf (n:Nat):Nat:=zEi n
def zEj (n:Nat):Nat:=zEf n
def zEk (n:Nat):Nat:=zEj n
def zD6 (n:Nat):Nat:=zEk n
def zD2 (n:Nat):Nat:=zD6 n
def zD9 (n:Nat):Nat:=zD2 n
def zEh (n:Nat):Nat:=zD9 n
def zEe (n:Nat):Nat:=zEh n
def zD7 (n:Nat):Nat:=zEe n
def zD8 (n:Nat):Nat:=zD7 n
def zEd (n:Nat):Nat:=zD8 n
def zzC (n:Nat):Nat:=zEd n
section
variable {β:Type}
def chk (p:Prop) [inst:Decidable p] (k:Option β):Option β:=(fun (_:Nat→Nat)=>match inst with
 | .isTrue _=>k
 | .isFalse _=>none) hi0
theorem zfr (p:Prop) [inst:Decidable p] (k:Option β):chk p k=if p then k else none:=by
 cases inst <;> rfl
def ifb (t:Bool) (a b:Option β):Option β:=(fun (_:Nat→Nat)=>match t with
 | true=>a
 | false=>b) hi0
def lt {α:Type} (a:α) (k:α→Option β):Option β:=k a
def aI (kd:IntKind) (v:V) (k:Int→Option β):Option β:=match v with
 | .sc (.int kd' n)=>chk (kd'=kd) (k n)
 | _=>none
def zpt (v:V) (k:Int→Option β):Option β:=(fun (_:Nat→Nat)=>match v with
 | .sc (.int _ n)=>k n
 | _=>none) hi0
def aB (v:V) (k:Bool→Option β):Option β:=(fun (_:Nat→Nat)=>match v with
 | .sc (.bool b)=>k b
 | _=>none) hi0
def aS (v:V) (k:ByteArray→Option β):Option β:=(fun (_:Nat→Nat)=>match v with
 | .sc (.string s)=>k s
 | _=>none) hi0
def aL (sz:Nat) (v:V) (k:List (List V)→Option β):Option β:=match v with
 | .sl sz' es=>chk (sz'=sz) (k es)
 | _=>none
def aLd (sz:Nat) (v:V) (k:List (List V)→Option β):Option β:=match v with
 | .sl sz' es=>chk (sz'=sz) (k es)
 | .gs sz' es=>chk (sz'=sz) (k es)
 | _=>none
def aA (n:Nat) (v:V) (k:List V→Option β):Option β:=match v with
 | .agg cs=>chk (cs.length=n) (k cs)
 | _=>none
def aG (v:V) (k:List V→Option β):Option β:=(fun (_:Nat→Nat)=>match v with
 | .agg cs=>k cs
 | _=>none) hi0
def aGs (sz:Nat) (v:V) (k:List (List V)→Option β):Option β:=match v with
 | .gs sz' es=>chk (sz'=sz) (k es)
 | _=>none
def aP (id off:Nat) (v:V) (k:Option β):Option β:=match v with
 | .ptr i o=>chk (i=id∧o=off) (k)
 | _=>none
def aM (id:Nat) (v:V) (k:Option β):Option β:=match v with
 | .mp i=>chk (i=id) (k)
 | _=>none
def aO (id sz:Nat) (v:V) (k:Nat→Nat→Option β):Option β:=match v with
 | .own i o l s=>chk (i=id∧s=sz) (k o l)
 | _=>none
def aO0 (id sz:Nat) (v:V) (k:Nat→Option β):Option β:=match v with
 | .own i o l s=>chk (i=id∧s=sz∧o=0) (k l)
 | _=>none
def aFp (n:Nat) (v:V) (k:List V→Option β):Option β:=match v with
 | .fp m cs=>chk (m=n) (k cs)
 | _=>none
def aV (u:Value) (v:V) (k:Option β):Option β:=match u,v with
 | .nilFunc,.sc .nilFunc=>k
 | .pointer none,.sc (.pointer none)=>k
 | .map none,.sc (.map none)=>k
 | _,_=>none
def zy6:List (Nat × Nat)→List V→Bool
 | [],[]=>true
 | (i,o)::r,.ptr a b::s=>Nat.beq i a && (Nat.beq o b && zy6 r s)
 | _,_=>false
def aF (f:Nat) (caps:List (Nat × Nat)) (v:V) (k:Option β):Option β:=match v with
 | .fn g cs=>match Nat.beq f g && zy6 caps cs with
  | true=>k
  | false=>none
 | _=>none
def zej (cs:List V) (off:Nat) (k:V→Option β):Option β:=match cs[off]? with
 | some v=>k v
 | none=>none
def idx (es:List (List V)) (j:Int) (k:List V→Option β):Option β:=chk (0≤j) (match es[j.toNat]? with
 | some c=>k c
 | none=>none)
def eqC (n:Nat) (a b:List V) (k:Bool→Option β):Option β:=chk (a.length=n∧b.length=n) (match zcY a b with
 | some r=>k r
 | none=>none)
def zBQ (es:List (List V)) (k:ByteArray→Option β):Option β:=match zgu es with
 | some l=>k ⟨l.toArray⟩
 | none=>none
def zC9 (es fs:List (List V)) (k:Int→Option β):Option β:=match zgu es with
 | some a=>match zgu fs with
  | some b=>k (Lib.compareBytes a b)
  | none=>none
 | none=>none
def zqe (cs:List V) (k:List V→Option β):Option β:=match cs.mapM V.plain with
 | some vs=>k vs
 | none=>none
def zzw (cs:List V) (k:List V→Option β):Option β:=match cs.mapM V.refd with
 | some vs=>k vs
 | none=>none
def mAt (kd:Nat) (key:V) (es:List (V × V)) (k:Option V→Option β):Option β:=match zgZ kd key with
 | true=>match znB key es with
  | some r=>k r
  | none=>none
 | false=>none
def zAh (kd:Nat) (key val:V) (es:List (V × V)) (k:List (V × V)→Option β):Option β:=match zgZ kd key with
 | true=>match zso key val es with
  | some r=>k r
  | none=>none
 | false=>none
def cI (kd:IntKind) (cs:List V) (off:Nat) (k:Int→Option β):Option β:=zej cs off (fun v=>aI kd v k)
def cB (cs:List V) (off:Nat) (k:Bool→Option β):Option β:=zej cs off (fun v=>aB v k)
def cS (cs:List V) (off:Nat) (k:ByteArray→Option β):Option β:=zej cs off (fun v=>aS v k)
def cL (sz:Nat) (cs:List V) (off:Nat) (k:List (List V)→Option β):Option β:=zej cs off (fun v=>aL sz v k)
def cLd (sz:Nat) (cs:List V) (off:Nat) (k:List (List V)→Option β):Option β:=zej cs off (fun v=>aLd sz v k)
end
def zEw (k:IntKind) (a b:Int):Int:=k.wrap (BitVec.ofInt k.bits a &&& BitVec.ofInt k.bits b).toNat
def ior (k:IntKind) (a b:Int):Int:=k.wrap (BitVec.ofInt k.bits a ||| BitVec.ofInt k.bits b).toNat
def zEs (k:IntKind) (a b:Int):Int:=k.wrap (BitVec.ofInt k.bits a ^^^ BitVec.ofInt k.bits b).toNat
def zEn (k:IntKind) (a b:Int):Int:=k.wrap (BitVec.ofInt k.bits a &&& ~~~ BitVec.ofInt k.bits b).toNat
def zAa (k:IntKind) (n:Int):Int:=k.wrap (BitVec.ofInt k.bits (if k.signed then -1 else k.max) ^^^ BitVec.ofInt k.bits n).toNat
def zEy (k:IntKind) (a b:Int):Int:=k.wrap (a * 2 ^ (min b.toNat k.bits))
def zEt (k:IntKind) (a b:Int):Int:=a.fdiv (2 ^ (min b.toNat k.bits))
def zEq (a b:Int):Int:=if b > a then b else a
def zDu (a b:Int):Int:=if b < a then b else a
inductive Sh where
 | any
 | int (k:IntKind)
 | bool
 | str
 | sl (sz:Nat)
 | row (l:List Sh)
def asc {β:Type} (s:Sh) (v:V) (k:V→Option β):Option β:=match s with
 | .any=>k v
 | .int kd=>aI kd v (fun n=>k (.sc (.int kd n)))
 | .bool=>aB v (fun b=>k (.sc (.bool b)))
 | .str=>aS v (fun t=>k (.sc (.string t)))
 | .sl sz=>aL sz v (fun es=>k (.sl sz es))
 | .row _=>none
def zC4 {β:Type} (s:Sh) (v:V) (k:V→Option β):Option β:=match s with
 | .any=>k v.dem
 | .int kd=>aI kd v (fun n=>k (.sc (.int kd n)))
 | .bool=>aB v (fun b=>k (.sc (.bool b)))
 | .str=>aS v (fun t=>k (.sc (.string t)))
 | .sl sz=>aLd sz v (fun es=>k (.sl sz es))
 | .row _=>none
def zxI {β:Type}:List Sh→Nat→List V→(List V→Option β)→Option β
 | [],_,_,k=>k []
 | s::ss,i,cs,k=>zej cs i fun v=>asc s v fun v=>zxI ss (i+1) cs fun r=>k (v::r)
def zsW {β:Type} (s:Sh) (cs:List V) (k:List V→Option β):Option β:=match s with
 | .row ss=>chk (cs.length=ss.length) (zxI ss 0 cs k)
 | _=>k cs
abbrev CBC:=∀ (β:Type),Nat→List V→Bor→(V→Bor→Option β)→Option β
section
variable {β:Type}
abbrev zj7 (o:Option St) (κ:St→Option β):Option β:=match o with
 | some σ=>κ σ
 | none=>none
def ltV (v:Value) (k:Value→Option β):Option β:=match v with
 | .int kd n=>lt n fun n=>k (.int kd n)
 | v=>k v
def zB8:V→V
 | .gs sz _=>.gs sz []
 | .sl sz _=>.sl sz []
 | v=>v
def zzW (t:Bool) (a b:V) (k:V→Option β):Option β:=match a,b with
 | .sc (.bool x),.sc (.bool y)=>k (.sc (.bool (cond t x y)))
 | .sc (.int kd x),.sc (.int kd' y)=>chk (kd=kd') (lt (cond t x y) (fun n=>k (.sc (.int kd n))))
 | a,b=>ifb t (k a) (k b)
def zva (σ:St):List (Nat × Nat × Src)→List V→(List V→Option β)→Option β
 | [],cs,k=>k cs
 | (off,n,x)::rest,cs,k=>match (x.get σ).plain with
  | some v=>chk (v.cells.length=n∧off+n≤cs.length) (zva σ rest (zc cs off v.cells) k)
  | none=>none
def zsf (sh:Nat→Sh) (σ:St):List (Nat × Nat × Src)→List V→(List V→Option β)→Option β
 | [],cs,k=>k cs
 | (off,n,x)::rest,cs,k=>match x.get σ with
  | .agg us=>zsW (sh ((x.slot).getD 0)) us fun us=>chk (us.length=n∧off+n≤cs.length) (zsf sh σ rest (zc cs off us) k)
  | v=>match v.refd with
   | some v=>chk (v.cells.length=n∧off+n≤cs.length) (zsf sh σ rest (zc cs off v.cells) k)
   | none=>none
def zBr (op:BinOp) (x y:Value) (k:Value→Option β):Option β :=
 match op,x,y with
 | .shl,.int kd a,.int _ b=>chk (0≤b) (k (.int kd (kd.wrap (a * 2 ^ (min b.toNat kd.bits)))))
 | .shr,.int kd a,.int _ b=>chk (0≤b) (k (.int kd (a.fdiv (2 ^ (min b.toNat kd.bits)))))
 | .quo,.int kd a,.int kd' b=>chk (kd=kd') (chk (b≠0) (k (.int kd (kd.wrap (a.tdiv b)))))
 | .rem,.int kd a,.int kd' b=>chk (kd=kd') (chk (b≠0) (k (.int kd (a.tmod b))))
 | op,x,y=>match znu op x y with
  | some r=>k r
  | none=>none
def zrO (σ:St) (x:Option Src) (dflt:Nat) (most:Nat) (k:Nat→Option β):Option β :=
 match x with
 | none=>k dflt
 | some s=>zpt (s.get σ) fun i=>chk (0≤i∧i≤most) (k i.toNat)
def znP (σ:St) (len:Nat) (lo hi mx:Option Src) (k:Nat→Nat→Nat→Option β):Option β :=
 zrO σ mx len len fun m=>zrO σ hi len m fun h=>zrO σ lo 0 h fun l=>k l h m
def zCO (l h m id off sz:Nat) (k:V→Option β):Option β:=ifb (decide (m=l)) (k (.gs sz [])) (k (.own id (off+l * sz) (h - l) sz))
def zmf (b:List B) (v:V) (k:V→Option β):Option β:=match zaQ b v with
 | some u=>k u
 | none=>none
def zvi (sh:Sh) (cs:List V) (off:Nat) (k:V→Option β):Option β:=zej cs off (fun v=>asc sh v k)
def zAr (sh:Sh) (cs:List V) (off:Nat) (k:V→Option β):Option β:=zej cs off (fun v=>zC4 sh v k)
def zxt (nb:Nat) (σ:St) (dst:Option Nat) (pin:Bool) (v:V) (κ:St→Option β):Option β:=match v with
 | .fr sz es=>match pin with
  | true=>zj7 (σ.putG nb dst true sz es) κ
  | false=>κ (σ.put dst (.gs sz es))
 | v=>zj7 (σ.putR nb dst pin v) κ
def zwi (b:List B) (id:Nat) (κ:List B→Option β):Option β:=match b[id]? with
 | some (.live true cs)=>ifb cs.isEmpty (κ b) (κ (b.set id (.fz cs)))
 | _=>κ b
def znQ (σ:St):List (Src × Nat)→List B→(List B→Option β)→Option β
 | [],b,κ=>κ b
 | s::rest,b,κ=>match decide (2≤s.2) with
  | true=>znQ σ rest b κ
  | false=>match zac (s.1.get σ) with
   | some id=>zwi b id fun b=>znQ σ rest b κ
   | none=>znQ σ rest b κ
def zsq (nb:Nat):List Nat→St→(St→Option β)→Option β
 | [],σ,κ=>κ σ
 | d::fz,σ,κ=>match σ.b[nb+d]? with
  | some (.live true cs)=>chk (cs.length≠0) (zsq nb fz { σ with b:=σ.b.set (nb+d) (.fz cs) } κ)
  | _=>zsq nb fz σ κ
def zsQ (cb:CBC) (nb:Nat) (σ:St) (dst:Option Nat) (pin:Bool) (f:Nat) (args:List V) (srcs:List (Src × Nat)) (xs:List Nat) (κ:St→Option β):Option β :=
 znQ σ srcs σ.b fun b1 =>
 let σ1:St:={ σ with b:=b1 }
 let ids:=y9 σ1.b args
 match zd6 σ1.b ids ids with
 | none=>none
 | some bor=>cb β f (args.map (zc9 (yM ids))) bor fun r bor' =>
  let ids':=ids++(xs.map (nb+·)).take (bor'.length - ids.length)
  chk ((bor'.take ids.length).map B.len=bor.map B.len)
   (match decide (bor'.length=ids'.length) && (args.all (fun a=>(xH a).all ids.contains) && (zve r && ((zhK r).all (fun k=>decide (k < ids'.length)) && (bor'.all (B.lend (List.range ids'.length)) && (zgJ (bor'.take ids.length) bor && ((bor'.drop ids.length).all B.isRow && ziv σ1.b nb xs)))))) with
   | true=>zxt nb { σ1 with b:=zae (fun k=>ids'.getD k 0) ids' bor' σ1.b } dst pin (zlh (fun k=>ids'.getD k 0) r) κ
   | false=>none)
def zbJ (sh:Nat→Sh) (cb:CBC) (nb:Nat) (σ:St) (dst:Option Nat) (pin:Bool) (k:K) (κ:St→Option β):Option β :=
 match k with
 | .pick c a b=>aB (c.get σ) fun t=>zzW t (a.get σ).dem (b.get σ).dem fun v=>κ (σ.put dst v)
 | .build zero parts=>zva σ parts zero fun cs=>κ (σ.put dst (.agg cs))
 | .buildSt zero parts=>zsf sh σ parts zero fun cs=>κ (σ.put dst (.st cs))
 | .nilT neg x=>match (x.get σ).dem with
  | .sl _ es=>match x with
   | .tmp t=>ifb es.isEmpty (lt { σ with t:=σ.t.set t (zB8 (x.get σ)) } fun σ=>κ (σ.put dst .ub)) (κ (σ.put dst (.sc (.bool neg))))
   | .const _=>none
  | _=>none
 | .un op x=>match x.get σ with
  | .sc a=>match zzQ op a with
   | some r=>ltV r fun r=>κ (σ.put dst (.sc r))
   | none=>none
  | _=>none
 | .conv k x=>zpt (x.get σ) fun n=>lt (k.wrap n) fun n=>κ (σ.put dst (.sc (.int k n)))
 | .mm isMax x y=>match x.get σ,y.get σ with
  | .sc (.int k a),.sc (.int _ b)=>lt (if isMax then (if b > a then b else a) else (if b < a then b else a)) fun n=>κ (σ.put dst (.sc (.int k n)))
  | _,_=>none
 | .copy sz d s=>match d.get σ with
  | .own id off len sz1=>zmf σ.b (s.get σ) fun u=>match u with
   | .sl sz2 es=>match σ.b[id]? with
    | some (.live true cs)=>chk (sz1=sz∧sz2=sz) (lt (zc cs off (es.take (min es.length len)).flatten) fun cs'=>κ ((σ.setB id (.live true cs')).put dst (.sc (.int .i64 ((min es.length len:Nat):Int)))))
    | _=>none
   | _=>none
  | _=>none
 | .box p x=>match x.get σ with
  | .st cs=>match p with
   | true=>none
   | false=>zj7 (σ.newB nb dst (.live false cs) (fun id=>.ptr id 0)) κ
  | v=>match v.plain with
   | some v=>match p with
    | true=>zj7 (σ.newB nb dst (.live true v.cells) (fun id=>.ptr id 0)) κ
    | false=>zsW (sh (dst.getD 0)) v.cells fun cs=>zj7 (σ.newB nb dst (.live false cs) (fun id=>.ptr id 0)) κ
   | none=>none
 | .buildSlice sz n zero parts=>zva σ parts (List.replicate n zero).flatten fun cs=>match decide (n=0∧pin=true) with
  | true=>κ (σ.put dst (.fr sz []))
  | false=>zj7 (σ.putG nb dst pin sz (xc sz n cs)) κ
 | .bin op x y=>match x.get σ,y.get σ with
  | .sc a,.sc b=>zBr op a b fun r=>ltV r fun r=>κ (σ.put dst (.sc r))
  | _,_=>none
 | .eqAgg neg n x y=>match x.get σ,y.get σ with
  | .agg a,.agg b=>eqC n a b fun r=>κ (σ.put dst (.sc (.bool (if neg then !r else r))))
  | _,_=>none
 | .toStr x=>zmf σ.b (x.get σ) fun v=>match v with
  | .sl 1 es=>zBQ es fun s=>κ (σ.put dst (.sc (.string s)))
  | _=>none
 | .cmpB x y=>zmf σ.b (x.get σ) fun u=>zmf σ.b (y.get σ) fun v=>match u,v with
  | .sl 1 es,.sl 1 fs=>zC9 es fs fun n=>lt n fun n=>κ (σ.put dst (.sc (.int .i64 n)))
  | _,_=>none
 | .makeSlice sz bytes zero l c=>zpt (l.get σ) fun l=>zpt (c.get σ) fun c =>
  match pin with
  | true=>chk (0≤l∧l≤c∧c.toNat * bytes≤zj∧c≤zj) (zj7 (σ.newB nb dst (.live true (List.replicate c.toNat zero).flatten) (fun id=>.own id 0 l.toNat sz)) κ)
  | false=>chk (0≤l∧l≤c∧c.toNat * bytes≤zj∧c≤zj) (zj7 (σ.putG nb dst false sz (List.replicate l.toNat zero)) κ)
 | .sliceA n sz x lo hi mx=>znP σ n lo hi mx fun l h m =>
  match x.get σ with
  | .ptr id off=>match σ.b[id]? with
   | some (.live _ cs)=>chk (off+n * sz≤cs.length) (zCO l h m id off sz fun v=>κ (σ.put dst v))
   | some (.fz cs)=>chk (off+n * sz≤cs.length) (ifb (decide (m=l)) (κ (σ.put dst (.gs sz []))) (κ (σ.put dst (.sl sz (xc sz (h - l) (cs.drop (off+l * sz)))))))
   | _=>none
  | .fp q cs=>chk (n * sz≤q) (κ (σ.put dst (.sl sz (xc sz (h - l) (cs.drop (l * sz))))))
  | _=>none
 | .sliceS sz x lo hi mx=>match (x.get σ).dem with
  | .sl sz' es=>znP σ es.length lo hi mx fun l h m =>
   chk (sz=sz') (match mx with
    | none=>κ (σ.put dst (.sl sz ((es.drop l).take (h - l))))
    | some _=>ifb (decide (m=l)) (κ (σ.put dst (.fr sz []))) (κ (σ.put dst (.sl sz ((es.drop l).take (h - l))))))
  | .own id off len sz'=>znP σ len lo hi mx fun l h m=>chk (sz=sz') (match mx with
    | none=>κ (σ.put dst (.own id (off+l * sz) (h - l) sz))
    | some _=>ifb (decide (m=l)) (κ (σ.put dst (.fr sz []))) (κ (σ.put dst .junk)))
  | .cut id off _ cap sz'=>match hi with
   | some _=>match mx with
    | none=>znP σ cap lo hi none fun l h _=>chk (sz=sz') (κ (σ.put dst (.own id (off+l * sz) (h - l) sz)))
    | some _=>none
   | none=>none
  | _=>none
 | .sliceC sz x hi=>match x.get σ with
  | .own id off len sz'=>match hi with
   | some _=>znP σ len none hi none fun _ h _=>chk (sz=sz') (κ (σ.put dst (.cut id off h len sz)))
   | none=>none
  | _=>none
 | .field agg o n x=>match x.get σ with
  | .agg cs=>match agg with
   | true=>κ (σ.put dst (.agg ((cs.drop o).take n)))
   | false=>zvi (sh (dst.getD 0)) cs o fun v=>κ (σ.put dst v)
  | .st cs=>match agg with
   | true=>none
   | false=>match cs[o]? with
    | some v=>κ (σ.put dst v)
    | none=>none
  | _=>none
 | .indexAddrA len sz x i=>zpt (i.get σ) fun j=>chk (0≤j∧j < len) (match x.get σ with
   | .ptr id off=>κ (σ.put dst (.ptr id (off+j.toNat * sz)))
   | .fp n cs=>chk (len * sz≤n) (κ (σ.put dst (.fp (n - j.toNat * sz) (cs.drop (j.toNat * sz)))))
   | _=>none)
 | .indexAddrS sz x i=>zpt (i.get σ) fun j=>match (x.get σ).dem with
   | .sl sz' es=>chk (sz=sz') (idx es j fun c=>κ (σ.put dst (.fp sz c)))
   | .own id off len sz'=>chk (sz=sz') (chk (0≤j∧j < len) (κ (σ.put dst (.ptr id (off+j.toNat * sz)))))
   | _=>none
 | .arrP n sz x=>match (x.get σ).dem with
   | .sl sz' es=>chk (sz=sz') (chk (0 < n) (chk (n≤es.length) (κ (σ.put dst (.fp (n * sz) (es.take n).flatten)))))
   | .own id off len sz'=>chk (sz=sz') (chk (0 < n) (chk (n≤len) (κ (σ.put dst (.ptr id off)))))
   | _=>none
 | .indexA agg len sz x i=>zpt (i.get σ) fun j=>chk (0≤j∧j < len) (match x.get σ with
   | .agg cs=>match agg with
    | true=>κ (σ.put dst (.agg ((cs.drop (j.toNat * sz)).take sz)))
    | false=>zvi (sh (dst.getD 0)) cs (j.toNat * sz) fun v=>κ (σ.put dst v)
   | _=>none)
 | .load agg n a take=>match a.get σ with
  | .ptr id off=>match σ.b[id]? with
   | some (.live p cs)=>match agg with
    | true=>chk (off+n≤cs.length) (match p with
     | true=>κ (σ.put dst (.agg ((cs.drop off).take n)))
     | false=>match take with
      | true=>zzw ((cs.drop off).take n) fun vs=>κ (σ.put dst (.st vs))
      | false=>zqe ((cs.drop off).take n) fun vs=>κ (σ.put dst (.agg vs)))
    | false=>match take with
     | true=>match p with
      | true=>none
      | false=>zej cs off fun v=>κ ((σ.setB id (.live p (cs.set off v.dem))).put dst v.tk)
     | false=>zAr (sh (dst.getD 0)) cs off fun v=>κ (σ.put dst v)
   | some (.fz cs)=>match agg with
    | true=>chk (off+n≤cs.length) (κ (σ.put dst (.agg ((cs.drop off).take n))))
    | false=>zvi (sh (dst.getD 0)) cs off fun v=>κ (σ.put dst v)
   | _=>none
  | .fp m cs=>match agg with
   | true=>chk (n≤m) (κ (σ.put dst (.agg (cs.take n))))
   | false=>zvi (sh (dst.getD 0)) cs 0 fun v=>κ (σ.put dst v)
  | _=>none
 | .store n a x=>match dst with
  | some _=>none
  | none=>match a.get σ with
   | .ptr id off=>match σ.b[id]? with
    | some (.live true cs)=>match (x.get σ).plain with
     | some v=>chk (v.cells.length=n∧off+n≤cs.length) (lt (zc cs off v.cells) fun cs'=>κ (σ.setB id (.live true cs')))
     | none=>none
    | some (.live false cs)=>match x.get σ with
     | .agg us=>zsW (sh ((x.slot).getD 0)) us fun us=>chk (us.length=n∧off+n≤cs.length) (κ (σ.setB id (.live false (zc cs off us))))
     | .st us=>chk (us.length=n∧off+n≤cs.length) (κ (σ.setB id (.live false (zc cs off us))))
     | .tup _=>none
     | .bx _ _=>none
     | .fr _ _=>none
     | .junk=>none
     | v=>chk (n=1∧off < cs.length) (κ ((σ.demote x).setB id (.live false (cs.set off v))))
    | _=>none
   | _=>none
 | .append sz bytes s x=>match s.get σ with
  | .gs sz1 es=>zmf σ.b (x.get σ) fun u=>match u with
   | .sl sz2 es2=>chk (sz1=sz∧sz2=sz) (chk ((es.length+es2.length) * bytes≤zj∧es.length+es2.length≤zj) (match pin with
    | true=>match s,es with
     | .const _,[]=>zj7 (σ.putG nb dst true sz es2) κ
     | _,_=>none
    | false=>lt (es++es2) fun es'=>κ ((σ.demote s).put dst (.gs sz es'))))
   | _=>none
  | .fr sz1 []=>zmf σ.b (x.get σ) fun u=>match u with
   | .sl sz2 es2=>chk (sz1=sz∧sz2=sz) (chk ((0+es2.length) * bytes≤zj∧0+es2.length≤zj) (zj7 ((σ.demote s).putG nb dst pin sz es2) κ))
   | _=>none
  | .own id off len sz1=>zmf σ.b (x.get σ) fun u=>match u with
   | .sl sz2 es2=>match σ.b[id]? with
    | some (.live true cs)=>chk (sz1=sz∧sz2=sz∧off=0) (chk ((len+es2.length) * bytes≤zj∧len+es2.length≤zj∧(len+es2.length≠0∨cs.length=0)) (lt (cs.take (len * sz)++es2.flatten) fun cs' =>
     zj7 ((σ.setB id (.dead cs.length)).newB nb dst (.live true cs') (fun id'=>.own id' 0 (len+es2.length) sz)) κ))
    | _=>none
   | _=>none
  | .cut id off len cap sz1=>zmf σ.b (x.get σ) fun u=>match u with
   | .sl sz2 es2=>match σ.b[id]? with
    | some (.live true cs)=>match pin with
     | false=>chk (sz1=sz∧sz2=sz∧off=0) (chk (len+es2.length≤cap) (lt (zc cs (len * sz) es2.flatten) fun cs'=>κ ((σ.setB id (.live true cs')).put dst (.cut id 0 (len+es2.length) cap sz))))
     | true=>none
    | _=>none
   | _=>none
  | _=>none
 | .unpin x=>match pin with
  | true=>none
  | false=>match x.get σ with
   | .own id off len sz=>match σ.b[id]? with
    | some (.live true cs)=>chk (off=0∧len * sz≤cs.length∧cs.length≠0) (κ ((σ.setB id (.dead cs.length)).put dst (.gs sz (xc sz len cs))))
    | _=>none
   | .gs sz es=>κ ((σ.demote x).put dst (.gs sz es))
   | _=>none
 | .clear sz zero x=>match x.get σ with
  | .own id off len sz1=>match σ.b[id]? with
   | some (.live true cs)=>chk (sz1=sz) (lt (zc cs off (List.replicate len zero).flatten) fun cs'=>κ ((σ.setB id (.live true cs')).put dst (.tup [])))
   | _=>none
  | _=>none
 | .extract x i=>match x.get σ with
  | .tup vs=>match vs[i]?,x with
   | some v,.tmp t=>match vs.all zxE && decide (dst≠some t) with
    | true=>match v.isHeld with
     | true=>zxt nb { σ with t:=σ.t.set t (.tup (vs.set i .junk)) } dst pin v κ
     | false=>match pin with
      | true=>none
      | false=>κ (σ.put dst v.dem)
    | false=>none
   | _,_=>none
  | _=>none
 | .appendZ sz bytes zero s x=>match s.get σ with
  | .gs sz1 es=>zpt (x.get σ) fun n=>chk (sz1=sz) (chk (0≤n∧(es.length+n.toNat) * bytes≤zj∧es.length+n.toNat≤zj) (match pin with
   | true=>none
   | false=>lt (es++List.replicate n.toNat zero) fun es'=>κ ((σ.demote s).put dst (.gs sz es'))))
  | _=>none
 | .mlook kd ok zero x y=>match x.get σ with
  | .mp id=>match σ.b[id]? with
   | some (.mp es)=>mAt kd (y.get σ) es fun r=>asc (sh (dst.getD 0)) (r.getD zero) fun v=>match ok with
    | true=>κ (σ.put dst (.tup [v,.sc (.bool r.isSome)]))
    | false=>κ (σ.put dst v)
   | _=>none
  | _=>none
 | .mput kd x y z=>match dst with
  | some _=>none
  | none=>match x.get σ with
   | .mp id=>match σ.b[id]? with
    | some (.mp es)=>match (z.get σ).plain with
     | some v=>zAh kd (y.get σ) v es fun es'=>κ (σ.setB id (.mp es'))
     | none=>none
    | _=>none
   | _=>none
 | .call f args xs=>match args.mapM (za3 σ) with
  | some vs=>zsQ cb nb σ dst pin f vs args xs κ
  | none=>none
 | .callv f args xs=>match f.get σ with
  | .fn g caps=>match args.mapM (za3 σ) with
   | some vs=>zsQ cb nb σ dst pin g (vs++caps) args xs κ
   | none=>none
  | _=>none
 | k=>zj7 (zk (fun _ _ _=>none) nb σ dst pin k) κ
def zsU (sh:Nat→Sh) (cb:CBC) (nb:Nat) (σ:St) (o:COp) (κ:St→St→Option β):Option β :=
 match o.guard with
 | none=>zbJ sh cb nb σ o.dst o.pin o.k (κ σ)
 | some (j,want)=>match σ.t[j]? with
  | some (.sc (.bool b))=>match want with
   | true=>ifb b (lt { σ with t:=σ.t.set j (.sc (.bool true)) } fun σ=>zbJ sh cb nb σ o.dst o.pin o.k (κ σ)) (lt { σ with t:=σ.t.set j (.sc (.bool false)) } fun σ=>κ σ (σ.put o.dst (.tup [])))
   | false=>ifb b (lt { σ with t:=σ.t.set j (.sc (.bool true)) } fun σ=>κ σ (σ.put o.dst (.tup []))) (lt { σ with t:=σ.t.set j (.sc (.bool false)) } fun σ=>zbJ sh cb nb σ o.dst o.pin o.k (κ σ))
  | some (.tup [])=>κ σ (σ.put o.dst (.tup []))
  | _=>none
def zt9 (sh:Nat→Sh) (cb:CBC) (nb:Nat):List COp→St→(St→Option β)→Option β
 | [],σ,κ=>κ σ
 | o::rest,σ,κ=>zsU sh cb nb σ o fun _ σ'=>zt9 sh cb nb rest σ' κ
def zxJ (sh:Nat→Sh) (cb:CBC) (nb:Nat):List (COp × Fl)→St→(St→Option β)→Option β
 | [],σ,κ=>κ σ
 | (o,q)::rest,σ,κ=>zsU sh cb nb σ o fun σr σ'=>match zeb nb σr o q σ' with
  | true=>zxJ sh cb nb rest σ' κ
  | false=>none
abbrev KT (β:Type):=Ex→St→Option β
def zM (rb:St→KT β→Option β) (K:KT β):KT β:=(fun (_:Nat→Nat)=>fun ex σ=>match ex with
 | .normal=>rb σ K
 | .exit j=>K (.exit j) σ
 | .ret=>K .ret σ) zzC
def yy (id:Nat) (K:KT β):KT β:=(fun (_:Nat→Nat)=>fun ex σ=>match ex with
 | .normal=>K .normal σ
 | .exit j=>match Nat.beq j id with
  | true=>K .normal σ
  | false=>K (.exit j) σ
 | .ret=>K .ret σ) zzC
def zbw (norm:St→St) (X:St→Option β) (K:KT β):KT β:=(fun (_:Nat→Nat)=>fun ex σ=>match ex with
 | .normal=>X (norm σ)
 | .exit j=>K (.exit j) σ
 | .ret=>K .ret σ) zzC
def xG (body:St→KT β→Option β) (norm:St→St):Nat→St→KT β→Option β
 | 0,_,_=>none
 | n+1,σ,K=>body σ (zbw norm (fun σ=>xG body norm n σ K) K)
def onR (o:Option (Ex × St)) (K:KT β):Option β:=(fun (_:Nat→Nat)=>match o with
 | some (ex,σ)=>K ex σ
 | none=>none) zzC
def zn (sh:Nat→Sh) (cb:CBC) (nb:Nat) (L:Nat):CC→St→KT β→Option β
 | .skip,σ,K=>K .normal σ
 | .reg ops,σ,K=>zt9 sh cb nb ops σ (K .normal)
 | .dreg fz ops,σ,K=>zsq nb fz σ fun σ=>zxJ sh cb nb ops σ (K .normal)
 | .seq a b,σ,K=>zn sh cb nb L a σ (zM (zn sh cb nb L b) K)
 | .fork p c a b,σ,K=>zn sh cb nb L p σ (zM (fun σ K=>match c.get σ with
  | .ub=>match zxu (run (fun _ _ _=>none) nb L a σ) (run (fun _ _ _=>none) nb L b σ) with
   | true=>onR (run (fun _ _ _=>none) nb L b σ) K
   | false=>none
  | v=>aB v fun t=>ifb t (zn sh cb nb L a σ (zM (zn sh cb nb L b) K)) (zn sh cb nb L b σ K)) K)
 | .cond c a b,σ,K=>match c.get σ with
  | .ub=>match zvw (run (fun _ _ _=>none) nb L a σ) (run (fun _ _ _=>none) nb L b σ) with
   | true=>onR (run (fun _ _ _=>none) nb L b σ) K
   | false=>none
  | v=>aB v fun t=>ifb t (zn sh cb nb L a σ K) (zn sh cb nb L b σ K)
 | .block id a,σ,K=>zn sh cb nb L a σ (yy id K)
 | .loop kt kb a,σ,K=>xG (zn sh cb nb L a) (yT nb kt kb) L (yT nb kt kb σ) K
 | .mask kt kb,σ,K=>K .normal (yT nb kt kb σ)
 | .exit id,σ,K=>K (.exit id) σ
 | .ret,σ,K=>K .ret σ
def znO (nb:Nat) (σ:St) (r:RV) (k:V→Option β):Option β:=match r with
 | .cellS _ _ _=>none
 | .tmp t=>match σ.t.getD t .junk with
  | .own id off len sz=>match decide (nb≤id) with
   | true=>match σ.b[id]? with
    | some (.live true cs)=>match decide (off=0∧0 < sz) with
     | true=>chk (len≠0∨cs.length=0) (k (.fr sz (xc sz len cs)))
     | false=>none
    | _=>none
   | false=>k (.own id off len sz)
  | .ptr id off=>match σ.b[id]? with
   | some (.live p cs)=>match decide (off=0∧nb≤id) with
    | true=>chk (cs.length≠0) (match p with
     | true=>k (.bx p cs)
     | false=>zqe cs fun cs=>k (.bx false cs))
    | false=>none
   | _=>none
  | _=>match zam nb σ (.tmp t) with
   | some v=>k v
   | none=>none
 | .tmpP t=>match σ.t.getD t .junk with
  | .own id off len sz=>match decide (nb≤id∧off=0∧0 < sz) with
   | true=>match σ.b[id]? with
    | some (.live true cs)=>k (.gs sz (xc sz len cs))
    | _=>none
   | false=>none
  | _=>match zam nb σ (.tmpP t) with
   | some v=>k v
   | none=>none
 | .cell t agg n=>match σ.t.getD t .junk with
  | .ptr id off=>match σ.b[id]? with
   | some (.live p cs)=>match agg with
    | true=>chk (off=0∧cs.length=n∧n≠0) (match p with
     | true=>k (.agg cs)
     | false=>zqe cs fun cs=>k (.agg cs))
    | false=>match decide (n=1∧off=0) with
     | true=>zej cs 0 fun v=>match v.plain with
      | some v=>k v
      | none=>none
     | false=>none
   | _=>none
  | _=>none
def ztQ (nb:Nat) (σ:St):List RV→(List V→Option β)→Option β
 | [],k=>k []
 | r::rs,k=>znO nb σ r fun v=>ztQ nb σ rs fun vs=>k (v::vs)
def zqY (nb:Nat) (σ:St) (rs:List RV) (k:V→Option β):Option β :=
 match zju rs && zeX (zhk nb σ rs) with
 | true=>match rs with
  | [r]=>znO nb σ r k
  | rs=>ztQ nb σ rs fun vs=>k (.tup vs)
 | false=>none
def zrZ (b:List B) (nb:Nat) (ids:List Nat):List Nat→(Bor→Option β)→Option β
 | [],k=>k []
 | id::rest,k=>match b[id]? with
  | some (.live p cs)=>match p with
   | true=>zrZ b nb ids rest fun l=>k (.live true cs::l)
   | false=>match decide (id < nb) with
    | true=>chk (cs.all (zbA ids)=true) (zrZ b nb ids rest fun l=>k (.live false (cs.map (zc9 (yM ids)))::l))
    | false=>none
  | some (.mp es)=>match decide (id < nb) with
   | true=>zrZ b nb ids rest fun l=>k (.mp es::l)
   | false=>none
  | some (.dead n)=>match decide (id < nb) with
   | true=>zrZ b nb ids rest fun l=>k (.dead n::l)
   | false=>none
  | _=>none
def zO (nb:Nat) (rs:List RV) (k:V→Bor→Option β):KT β:=fun ex σ=>match ex with
 | .exit _=>none
 | _=>match zhG σ.t.length rs σ with
  | some (σ,rs)=>zqY nb σ rs fun r=>zrZ σ.b nb (zen nb r) (zen nb r) fun b=>match zeX (zen nb r) with
   | true=>k (zlh (yM (zen nb r)) r) b
   | false=>none
  | none=>none
def lc {α β:Type} (l:List α) (a:Option β) (b:α→List α→Option β):Option β:=match l with
 | []=>a
 | x::xs=>b x xs
def zwj:CC→Bool
 | .fork _ _ _ _=>true
 | .seq a b=>zwj a || zwj b
 | _=>false
def zxw (sh:Nat→Sh) (cb:CBC) (L:Nat) (c:CF) (args:List V) (bor:Bor) (k:V→Bor→Option β):Option β :=
 zn sh cb bor.length L c.body (enter c.ntmps args bor) (zO bor.length c.res k)
def zK (sh:Nat→Sh) (cb:CBC) (L:Nat) (c:CF) (args:List V) (bor:Bor) (k:V→Bor→Option β):Option β :=
 match zwj c.body,args with
 | true,.sl sz es::rest=>lc es (zxw sh cb L c (.sl sz []::rest) bor k) (fun x xs=>zxw sh cb L c (.sl sz (x::xs)::rest) bor k)
 | _,args=>zxw sh cb L c args bor k
end
def zA6 (x:Nat):Nat→Nat→List Bool
 | 0,_=>[]
 | n+1,i=>x.testBit i::zA6 x n (i+1)
def bl (x n:Nat):List Bool:=zA6 x n 0
def xZ:List (Nat × Sh)→Nat→Sh
 | [],_=>.any
 | (m,s)::r,n=>match Nat.beq m n with
  | true=>s
  | false=>xZ r n
def zBp:V→Nat
 | .sc (.int _ _)=>1
 | .sc (.bool _)=>2
 | .sc _=>3
 | .agg _=>4
 | .tup _=>5
 | .sl _ _=>6
 | .gs _ _=>7
 | .own _ _ _ _=>8
 | .ptr _ _=>9
 | .fp _ _=>10
 | .fn f _=>100+f
 | .mp _=>12
 | .st _=>13
 | _=>11
def zDS:V→List Nat
 | .st cs=>13::cs.map zBp
 | v=>[zBp v]
def zr3:Bor→List Nat
 | []=>[]
 | .live true _::r=>20::zr3 r
 | .live false cs::r=>21::(cs.map zBp++zr3 r)
 | .mp _::r=>22::zr3 r
 | _::r=>23::zr3 r
def zAy:List Nat→List Nat→Bool
 | [],[]=>true
 | a::l,b::m=>Nat.beq a b && zAy l m
 | _,_=>false
def zEu (g:Nat) (tags:List Nat) (d:∀ (β:Type),List V→Bor→(V→Bor→Option β)→Option β) (c:CBC):CBC:=fun β f args bor k=>match Nat.beq f g && zAy tags (args.flatMap zDS++zr3 bor) with
 | true=>d β args bor k
 | false=>c β f args bor k
def noC:CBC:=fun _ _ _ _ _=>none
def xB (g:Nat) (d:∀ (β:Type),List V→Bor→(V→Bor→Option β)→Option β) (c:CBC):CBC:=fun β f args bor k=>match Nat.beq f g with
 | true=>d β args bor k
 | false=>c β f args bor k
abbrev tq (n:Nat):Src:=.tmp n
abbrev oo (d:Nat) (k:K):COp:=⟨some d,false,none,k⟩
abbrev oz (k:K):COp:=⟨none,false,none,k⟩
abbrev KK (β:Type):=V→Bor→Option β
def rp:Nat→V→List V→List V
 | 0,_,l=>l
 | n+1,v,l=>v::rp n v l
def jn:Nat→List V→List V
 | 0,l=>l
 | n+1,l=>.junk::jn n l
def gn:Nat→List B→List B
 | 0,l=>l
 | n+1,l=>.gone::gn n l
end
section
set_option linter.unusedVariables false
set_option linter.unusedSimpArgs false
section
variable {β:Type} {r:β}
theorem zB {p:Prop} [Decidable p] {k:Option β} (h:chk p k=some r):p∧k=some r:=by
 rw [zfr] at h; split at h
 ·exact ⟨‹_›,h⟩
 ·cases h
theorem zhp {t:Bool} {a b:Option β} (h:ifb t a b=some r):(t=true∧a=some r)∨(t=false∧b=some r):=by
 cases t
 ·exact .inr ⟨rfl,h⟩
 ·exact .inl ⟨rfl,h⟩
theorem zaG {kd:IntKind} {v:V} {k:Int→Option β} (h:aI kd v k=some r):∃ n,v=.sc (.int kd n)∧k n=some r:=by
 unfold aI at h; simp only [zfr] at h; split at h
 ·split at h
  ·rename_i e; subst e; exact ⟨_,rfl,h⟩
  ·cases h
 ·cases h
theorem zim {v:V} {k:Int→Option β} (h:zpt v k=some r):∃ kd n,v=.sc (.int kd n)∧k n=some r:=by
 unfold zpt at h; split at h
 ·exact ⟨_,_,rfl,h⟩
 ·cases h
theorem zmK {v:V} {k:Bool→Option β} (h:aB v k=some r):∃ b,v=.sc (.bool b)∧k b=some r:=by
 unfold aB at h; split at h
 ·exact ⟨_,rfl,h⟩
 ·cases h
theorem zAH {v:V} {k:ByteArray→Option β} (h:aS v k=some r):∃ s,v=.sc (.string s)∧k s=some r:=by
 unfold aS at h; split at h
 ·exact ⟨_,rfl,h⟩
 ·cases h
theorem zaZ {sz:Nat} {v:V} {k:List (List V)→Option β} (h:aL sz v k=some r):∃ es,v=.sl sz es∧k es=some r:=by
 unfold aL at h; simp only [zfr] at h; split at h
 ·split at h
  ·rename_i e; subst e; exact ⟨_,rfl,h⟩
  ·cases h
 ·cases h
theorem zCg {sz:Nat} {v:V} {k:List (List V)→Option β} (h:aLd sz v k=some r):∃ es,v.dem=.sl sz es∧k es=some r:=by
 unfold aLd at h; simp only [zfr] at h; split at h
 ·split at h
  ·rename_i e; subst e; exact ⟨_,rfl,h⟩
  ·cases h
 ·split at h
  ·rename_i e; subst e; exact ⟨_,rfl,h⟩
  ·cases h
 ·cases h
theorem zfq {v:V} {k:List V→Option β} (h:aG v k=some r):∃ cs,v=.agg cs∧k cs=some r:=by
 unfold aG at h; split at h
 ·exact ⟨_,rfl,h⟩
 ·cases h
theorem zDc {id:Nat} {v:V} {k:Option β} (h:aM id v k=some r):v=.mp id∧k=some r:=by
 unfold aM at h; simp only [zfr] at h
 split at h
 ·split at h
  ·rename_i e; subst e; exact ⟨rfl,h⟩
  ·cases h
 ·cases h
theorem zCr {id sz:Nat} {v:V} {k:Nat→Option β} (h:aO0 id sz v k=some r):∃ l,v=.own id 0 l sz∧k l=some r:=by
 unfold aO0 at h; simp only [zfr] at h
 split at h
 ·split at h
  ·rename_i hc; obtain ⟨rfl,rfl,rfl⟩:=hc; exact ⟨_,rfl,h⟩
  ·cases h
 ·cases h
theorem zvf {id off:Nat} {v:V} {k:Option β} (h:aP id off v k=some r):v=.ptr id off∧k=some r:=by
 unfold aP at h; simp only [zfr] at h; split at h
 ·split at h
  ·rename_i e; rw [e.1,e.2]; exact ⟨rfl,h⟩
  ·cases h
 ·cases h
theorem zlj {cs:List V} {off:Nat} {k:V→Option β} (h:zej cs off k=some r):∃ v,cs[off]?=some v∧k v=some r:=by
 unfold zej at h; split at h
 ·exact ⟨_,‹_›,h⟩
 ·cases h
theorem zCs {es:List (List V)} {j:Int} {k:List V→Option β} (h:idx es j k=some r):0≤j∧∃ c,es[j.toNat]?=some c∧k c=some r:=by
 unfold idx at h; simp only [zfr] at h; split at h
 ·split at h
  ·exact ⟨‹_›,_,‹_›,h⟩
  ·cases h
 ·cases h
theorem zCk {n:Nat} {a b:List V} {k:Bool→Option β} (h:eqC n a b k=some r):(a.length=n∧b.length=n)∧∃ t,zcY a b=some t∧k t=some r:=by
 unfold eqC at h; simp only [zfr] at h; split at h
 ·split at h
  ·exact ⟨‹_›,_,‹_›,h⟩
  ·cases h
 ·cases h
theorem zBi {es:List (List V)} {k:ByteArray→Option β} (h:zBQ es k=some r):∃ l,zgu es=some l∧k ⟨l.toArray⟩=some r:=by
 unfold zBQ at h; split at h
 ·exact ⟨_,‹_›,h⟩
 ·cases h
theorem zpG {cs:List V} {k:List V→Option β} (h:zqe cs k=some r):∃ vs,cs.mapM V.plain=some vs∧k vs=some r:=by
 unfold zqe at h; split at h
 ·exact ⟨_,‹_›,h⟩
 ·cases h
theorem zA7 {cs:List V} {k:List V→Option β} (h:zzw cs k=some r):∃ vs,cs.mapM V.refd=some vs∧k vs=some r:=by
 unfold zzw at h
 split at h
 ·exact ⟨_,‹_›,h⟩
 ·cases h
theorem zec {o:Option St} {κ:St→Option β} (h:zj7 o κ=some r):∃ σ,o=some σ∧κ σ=some r:=by
 unfold zj7 at h; split at h
 ·exact ⟨_,rfl,h⟩
 ·cases h
theorem zgz {b:List B} {v:V} {k:V→Option β} (h:zmf b v k=some r):∃ u,zaQ b v=some u∧k u=some r:=by
 unfold zmf at h; split at h
 ·exact ⟨_,‹_›,h⟩
 ·cases h
theorem zv7 {s:Sh} {v:V} {k:V→Option β} (h:asc s v k=some r):k v=some r:=by
 cases s with
 | any=>exact h
 | int kd=>obtain ⟨n,e,h'⟩:=zaG h; subst e; exact h'
 | bool=>obtain ⟨n,e,h'⟩:=zmK h; subst e; exact h'
 | str=>obtain ⟨n,e,h'⟩:=zAH h; subst e; exact h'
 | sl sz=>obtain ⟨n,e,h'⟩:=zaZ h; subst e; exact h'
 | row l=>cases h
theorem zBO {s:Sh} {v:V} {k:V→Option β} (h:zC4 s v k=some r):k v.dem=some r:=by
 cases s with
 | any=>exact h
 | int kd=>obtain ⟨n,e,h'⟩:=zaG h; subst e; exact h'
 | bool=>obtain ⟨n,e,h'⟩:=zmK h; subst e; exact h'
 | str=>obtain ⟨n,e,h'⟩:=zAH h; subst e; exact h'
 | sl sz=>obtain ⟨n,e,h⟩:=zCg h; rw [e]; exact h
 | row l=>cases h
theorem zuX:∀ {ss:List Sh} {i:Nat} {cs:List V} {k:List V→Option β},zxI ss i cs k=some r→i+ss.length=cs.length→k (cs.drop i)=some r
 | [],i,cs,k,h,hl=>by
  rw [List.drop_of_length_le (by simp at hl; omega)]
  exact h
 | s::ss,i,cs,k,h,hl=>by
  obtain ⟨v,e,h⟩:=zlj h
  have h:=zuX (zv7 h) (by simp at hl; omega)
  obtain ⟨hi,rfl⟩:=List.getElem?_eq_some_iff.1 e
  rw [List.drop_eq_getElem_cons hi]
  exact h
theorem zpJ {s:Sh} {cs:List V} {k:List V→Option β} (h:zsW s cs k=some r):k cs=some r:=by
 cases s with
 | row ss =>
  obtain ⟨hl,h⟩:=zB h
  have:=zuX h (by omega)
  simpa using this
 | _=>exact h
theorem zo4 {s:Sh} {cs:List V} {off:Nat} {k:V→Option β} (h:zvi s cs off k=some r):∃ v,cs[off]?=some v∧k v=some r:=by
 obtain ⟨v,e,h⟩:=zlj h; exact ⟨v,e,zv7 h⟩
theorem zzU {s:Sh} {cs:List V} {off:Nat} {k:V→Option β} (h:zAr s cs off k=some r):∃ v,cs[off]?=some v∧k v.dem=some r:=by
 obtain ⟨v,e,h⟩:=zlj h; exact ⟨v,e,zBO h⟩
theorem zzk {v:Value} {k:Value→Option β} (h:ltV v k=some r):k v=some r:=by
 cases v <;> exact h
theorem zAS {t:Bool} {a b:V} {k:V→Option β} (h:zzW t a b k=some r):k (if t then a else b)=some r:=by
 unfold zzW at h; simp only [zfr] at h
 split at h
 ·cases t <;> exact h
 ·split at h
  ·rename_i e; subst e; cases t <;> exact h
  ·cases h
 ·rcases zhp h with ⟨rfl,h⟩ | ⟨rfl,h⟩ <;> exact h
theorem zsG {σ:St}:∀ {ps:List (Nat × Nat × Src)} {cs:List V} {k:List V→Option β},zva σ ps cs k=some r→∃ cs',zb2 σ ps cs=some cs'∧k cs'=some r
 | [],cs,k,h=>⟨cs,rfl,h⟩
 | (off,n,x)::ps,cs,k,h=>by
  unfold zva at h
  split at h
  ·rename_i v hv
   obtain ⟨hc,h⟩:=zB h
   obtain ⟨cs',e,h⟩:=zsG h
   refine ⟨cs',?_,h⟩
   simp only [zb2,hv,Option.bind_eq_bind,Option.bind_some,hc,and_self,if_true]
   exact e
  ·cases h
theorem zqT {sh:Nat→Sh} {σ:St}:∀ {ps:List (Nat × Nat × Src)} {cs:List V} {k:List V→Option β},zsf sh σ ps cs k=some r→∃ cs',zd7 σ ps cs=some cs'∧k cs'=some r
 | [],cs,k,h=>⟨cs,rfl,h⟩
 | (off,n,x)::ps,cs,k,h=>by
  unfold zsf at h
  split at h
  ·rename_i us hx
   have h:=zpJ h
   obtain ⟨hc,h⟩:=zB h
   obtain ⟨cs',e,h⟩:=zqT h
   refine ⟨cs',?_,h⟩
   simp only [zd7,hx,V.refd,V.plain,V.cells,Option.bind_eq_bind,Option.bind_some,hc,and_self,if_true]
   exact e
  ·split at h
   ·rename_i v hv
    obtain ⟨hc,h⟩:=zB h
    obtain ⟨cs',e,h⟩:=zqT h
    refine ⟨cs',?_,h⟩
    simp only [zd7,hv,Option.bind_eq_bind,Option.bind_some,hc,and_self,if_true]
    exact e
   ·cases h
theorem zB0 {op:BinOp} {x y:Value} {k:Value→Option β} (h:zBr op x y k=some r):∃ z,znu op x y=some z∧k z=some r:=by
 unfold zBr at h
 split at h
 ·obtain ⟨hc,h⟩:=zB h
  exact ⟨_,by simp only [znu]; rw [if_neg (by omega)],h⟩
 ·obtain ⟨hc,h⟩:=zB h
  exact ⟨_,by simp only [znu]; rw [if_neg (by omega)],h⟩
 ·obtain ⟨e,h2⟩:=zB h
  clear h
  subst e
  obtain ⟨hc,h⟩:=zB h2
  exact ⟨_,by simp [znu,hc],h⟩
 ·obtain ⟨e,h2⟩:=zB h
  clear h
  subst e
  obtain ⟨hc,h⟩:=zB h2
  exact ⟨_,by simp [znu,hc],h⟩
 ·split at h
  ·exact ⟨_,‹_›,h⟩
  ·cases h
theorem zqR {σ:St} {x:Option Src} {dflt most:Nat} {k:Nat→Option β} (h:zrO σ x dflt most k=some r):∃ n,zlc σ x dflt most=some n∧k n=some r:=by
 unfold zrO at h
 split at h
 ·exact ⟨_,rfl,h⟩
 ·obtain ⟨kd,n,e,h⟩:=zim h
  obtain ⟨hc,h⟩:=zB h
  exact ⟨_,by simp [zlc,e,V.int?,hc],h⟩
theorem zjz {σ:St} {len:Nat} {lo hi mx:Option Src} {k:Nat→Nat→Nat→Option β} (h:znP σ len lo hi mx k=some r):∃ l hh m,zgl σ len lo hi mx=some (l,hh,m)∧k l hh m=some r:=by
 obtain ⟨m,e1,h⟩:=zqR h
 obtain ⟨hh,e2,h⟩:=zqR h
 obtain ⟨l,e3,h⟩:=zqR h
 exact ⟨l,hh,m,by simp [zgl,e1,e2,e3],h⟩
end
def zkC (c:CBC) (cb:CB):Prop:=∀ (β:Type) (f:Nat) (args:List V) (bor:Bor) (k:V→Bor→Option β) (r:β),c β f args bor k=some r→∃ v b,cb f args bor=some (v,b)∧k v b=some r
section
variable {β:Type} {r:β} {c:CBC} {cb:CB} {sh:Nat→Sh} {nb L:Nat}
theorem zyd {σ:St} {dst:Option Nat} {pin:Bool} {v:V} {κ:St→Option β} (h:zxt nb σ dst pin v κ=some r):∃ σ',σ.putR nb dst pin v=some σ'∧κ σ'=some r:=by
 cases v with
 | fr sz es =>
  cases pin with
  | true =>
   simp only [zxt] at h
   obtain ⟨σ',e,h⟩:=zec h
   exact ⟨σ',by simp only [St.putR]; exact e,h⟩
  | false=>exact ⟨_,by simp only [St.putR,St.putG,Bool.false_eq_true,if_false],h⟩
 | _=>exact zec h
theorem zzJ (b:List B) (id:Nat) (κ:List B→Option β):zwi b id κ=κ (yV b id):=by
 unfold zwi yV
 split
 ·rename_i cs h
  cases cs with
  | nil=>simp [ifb,h]
  | cons c cs=>simp [ifb,h]
 ·rename_i h
  split
  ·rename_i c cs h2; exact absurd h2 (h _)
  ·rfl
theorem znD (σ:St):∀ (srcs:List (Src × Nat)) (b:List B) (κ:List B→Option β),znQ σ srcs b κ=κ (zt σ srcs b)
 | [],b,κ=>rfl
 | s::rest,b,κ=>by
  unfold znQ zt
  by_cases h:2≤s.2
  ·rw [if_pos h]; simp only [h,decide_true]; exact znD σ rest b κ
  ·rw [if_neg h]; simp only [h,decide_false]
   cases zac (s.1.get σ) with
   | none=>exact znD σ rest b κ
   | some id=>simp only [zzJ]; exact znD σ rest _ κ
theorem zqK (nb:Nat) {r:β}:∀ (fz:List Nat) (σ:St) (κ:St→Option β),zsq nb fz σ κ=some r→κ (znt nb fz σ)=some r
 | [],σ,κ,h=>h
 | d::fz,σ,κ,h=>by
  unfold zsq at h
  unfold znt
  split at h
  ·rename_i cs hb
   obtain ⟨hl,h⟩:=zB h
   have e:yV σ.b (nb+d)=σ.b.set (nb+d) (.fz cs):=by
    cases cs with
    | nil=>simp at hl
    | cons c cs=>unfold yV; rw [hb]
   rw [e]; exact zqK nb fz _ κ h
  ·rename_i hb
   have e:yV σ.b (nb+d)=σ.b:=by
    unfold yV
    split
    ·rename_i c cs h2; exact absurd h2 (hb _)
    ·rfl
   rw [e]; exact zqK nb fz _ κ h
theorem zuI (hc:zkC c cb) {σ:St} {dst:Option Nat} {pin:Bool} {f:Nat} {args:List V} {srcs:List (Src × Nat)} {xs:List Nat} {κ:St→Option β} (h:zsQ c nb σ dst pin f args srcs xs κ=some r):∃ σ',zdj cb nb σ dst pin f args srcs xs=some σ'∧κ σ'=some r:=by
 unfold zsQ at h
 rw [znD] at h
 simp only at h
 split at h
 ·cases h
 ·rename_i bor hb
  obtain ⟨v,b,e,h⟩:=hc _ _ _ _ _ _ h
  obtain ⟨hl,h⟩:=zB h
  split at h
  ·rename_i ht
   obtain ⟨σ',e2,h⟩:=zyd h
   refine ⟨σ',?_,h⟩
   simp only [Bool.and_eq_true,decide_eq_true_eq] at ht
   obtain ⟨t1,t2,t3,t4,t5,t6,t7,t8⟩:=ht
   unfold zdj
   simp only [hb,Option.bind_eq_bind,Option.bind_some,e]
   rw [if_pos ⟨hl,t1,t2,t3,t4,t5,t6,t7,t8⟩]
   exact e2
  ·cases h
theorem zCp {σ:St} {dst:Option Nat} {pin:Bool} {k:K} {κ:St→Option β} (hk:zk (fun _ _ _=>none) nb σ dst pin k=zk cb nb σ dst pin k) (h:zj7 (zk (fun _ _ _=>none) nb σ dst pin k) κ=some r):∃ σ',zk cb nb σ dst pin k=some σ'∧κ σ'=some r:=by
 obtain ⟨σ',e,h⟩:=zec h
 exact ⟨σ',by rw [← hk]; exact e,h⟩
theorem St.set_same {σ:St} {j:Nat} {v:V} (h:σ.t[j]?=some v):({ σ with t:=σ.t.set j v }:St)=σ:=by
 have:σ.t.set j v=σ.t:=by
  apply List.ext_getElem?
  intro i
  rw [List.getElem?_set]
  split
  ·rename_i e; subst e
   split
   ·exact h.symm
   ·rename_i hlt
    rw [List.getElem?_eq_none (by omega)]
  ·rfl
 rw [this]
theorem ztL (hc:zkC c cb) {σ:St} {dst:Option Nat} {pin:Bool} {k:K} {κ:St→Option β} (h:zbJ sh c nb σ dst pin k κ=some r):∃ σ',zk cb nb σ dst pin k=some σ'∧κ σ'=some r:=by
 cases k with
 | pick c a b =>
  obtain ⟨t,e,h⟩:=zmK h
  exact ⟨_,by simp only [zk,yp,e,V.bool?]; rfl,by have:=zAS h; cases t <;> exact this⟩
 | build zero parts =>
  obtain ⟨cs,e,h⟩:=zsG h
  exact ⟨_,by simp only [zk,yp,e]; rfl,h⟩
 | buildSt zero parts =>
  obtain ⟨cs,e,h⟩:=zqT h
  exact ⟨_,by simp only [zk,yp,e]; rfl,h⟩
 | box p x =>
  simp only [zbJ] at h
  split at h
  ·rename_i cs hx
   cases p with
   | true=>cases h
   | false =>
    obtain ⟨σ',e,h⟩:=zec h
    exact ⟨σ',by simp only [zk,hx,Bool.false_eq_true,if_false]; exact e,h⟩
  ·rename_i hx
   split at h
   ·rename_i v hv
    have hk:∀ p,zk cb nb σ dst pin (.box p x)=σ.newB nb dst (.live p v.cells) (fun id=>.ptr id 0):=by
     intro p
     cases hxx:x.get σ with
     | st cs=>exact absurd hxx (hx cs)
     | _=>rw [hxx] at hv; simp only [zk,hxx,hv]
    cases p with
    | true =>
     obtain ⟨σ',e,h⟩:=zec h
     exact ⟨σ',by rw [hk]; exact e,h⟩
    | false =>
     obtain ⟨σ',e,h⟩:=zec (zpJ h)
     exact ⟨σ',by rw [hk]; exact e,h⟩
   ·cases h
 | nilT neg x =>
  simp only [zbJ] at h
  split at h
  ·rename_i sz es hx
   split at h
   ·rename_i t
    rcases zhp h with ⟨hq,h⟩ | ⟨hq,h⟩
    ·have he:es=[]:=by simpa using hq
     subst he
     have hget:∃ v,σ.t[t]?=some v∧Src.get σ (.tmp t)=v∧zB8 v=v:=by
      simp only [Src.get,List.getD_eq_getElem?_getD] at hx ⊢
      cases ht:σ.t[t]? with
      | none=>rw [ht] at hx; simp [V.dem] at hx
      | some v =>
       rw [ht] at hx
       refine ⟨v,rfl,rfl,?_⟩
       have hx:v.dem=.sl sz []:=hx
       match v,hx with
       | .gs a es,hx =>
        have:es=[]:=by simp [V.dem] at hx; exact hx.2
        rw [this]; rfl
       | .sl a es,hx =>
        have:es=[]:=by simp [V.dem] at hx; exact hx.2
        rw [this]; rfl
       | .tup [],hx=>rfl
       | .tup (_::_),hx=>rfl
       | .sc _,hx=>rfl
       | .agg _,hx=>rfl
       | .own _ _ _ _,hx=>rfl
       | .ptr _ _,hx=>rfl
       | .fp _ _,hx=>rfl
       | .fn _ _,hx=>rfl
       | .bx _ _,hx=>rfl
       | .fr _ _,hx=>rfl
       | .ub,hx=>rfl
       | .junk,hx=>rfl
     obtain ⟨v,g1,g2,g3⟩:=hget
     simp only [lt] at h
     rw [g2,g3,St.set_same g1] at h
     exact ⟨_,by simp only [zk,yp,hx]; rfl,h⟩
    ·exact ⟨_,by simp only [zk,yp,hx,hq]; rfl,h⟩
   ·cases h
  ·cases h
 | un op x =>
  simp only [zbJ] at h
  split at h
  ·rename_i a ha
   split at h
   ·rename_i z hz
    exact ⟨_,by simp only [zk,yp,ha,hz]; rfl,zzk h⟩
   ·cases h
  ·cases h
 | conv k x =>
  obtain ⟨kd,n,e,h⟩:=zim h
  exact ⟨_,by simp only [zk,yp,e,V.int?]; rfl,h⟩
 | mm isMax x y =>
  simp only [zbJ] at h
  split at h
  ·rename_i k a k' b ha hb
   exact ⟨_,by simp only [zk,yp,ha,hb]; rfl,h⟩
  ·cases h
 | copy sz d s =>
  simp only [zbJ] at h
  split at h
  ·rename_i id off len sz1 hd
   obtain ⟨u,e,h⟩:=zgz h
   split at h
   ·rename_i sz2 es
    split at h
    ·rename_i cs hb
     obtain ⟨hc,h⟩:=zB h
     exact ⟨_,by simp only [zk,hd,e,hb]; rw [if_pos hc],h⟩
    ·cases h
   ·cases h
  ·cases h
 | buildSlice sz n zero parts =>
  obtain ⟨cs,e,h⟩:=zsG h
  split at h
  ·rename_i hc
   exact ⟨_,by simp only [zk,e,Option.bind_eq_bind,Option.bind_some]; rw [if_pos (of_decide_eq_true hc)],h⟩
  ·rename_i hc
   obtain ⟨σ',e2,h⟩:=zec h
   exact ⟨σ',by simp only [zk,e,Option.bind_eq_bind,Option.bind_some]; rw [if_neg (of_decide_eq_false hc)]; exact e2,h⟩
 | bin op x y =>
  simp only [zbJ] at h
  split at h
  ·rename_i a b ha hb
   obtain ⟨z,e,h⟩:=zB0 h
   exact ⟨_,by simp only [zk,yp,ha,hb,e]; rfl,zzk h⟩
  ·cases h
 | eqAgg neg n x y =>
  simp only [zbJ] at h
  split at h
  ·rename_i a b ha hb
   obtain ⟨hl,t,e,h⟩:=zCk h
   exact ⟨_,by simp only [zk,yp,ha,hb,hl,and_self,if_true,e]; rfl,h⟩
  ·cases h
 | toStr x =>
  obtain ⟨u,e,h⟩:=zgz h
  split at h
  ·obtain ⟨l,e2,h⟩:=zBi h
   exact ⟨_,by simp only [zk,yp,e,e2]; rfl,h⟩
  ·cases h
 | cmpB x y =>
  obtain ⟨u,e,h⟩:=zgz h
  obtain ⟨v,e',h⟩:=zgz h
  split at h
  ·unfold zC9 at h
   split at h
   ·rename_i a ha
    split at h
    ·rename_i b hb
     exact ⟨_,by simp only [zk,yp,e,e',ha,hb]; rfl,h⟩
    ·cases h
   ·cases h
  ·cases h
 | makeSlice sz bytes zero l c =>
  obtain ⟨k1,l',e1,h⟩:=zim h
  obtain ⟨k2,c',e2,h⟩:=zim h
  cases pin with
  | true =>
   obtain ⟨hc,h⟩:=zB h
   obtain ⟨σ',e3,h⟩:=zec h
   exact ⟨σ',by simp only [zk,e1,e2,V.int?]; rw [if_pos hc,if_pos trivial]; exact e3,h⟩
  | false =>
   obtain ⟨hc,h⟩:=zB h
   obtain ⟨σ',e3,h⟩:=zec h
   exact ⟨σ',by simp only [zk,e1,e2,V.int?]; rw [if_pos hc]; simpa using e3,h⟩
 | sliceA n sz x lo hi mx =>
  obtain ⟨l,hh,m,e,h⟩:=zjz h
  split at h
  ·rename_i id off hx
   split at h
   ·rename_i p cs hb
    obtain ⟨hl,h⟩:=zB h
    refine ⟨_,by simp only [zk,yp,e,Option.bind_eq_bind,Option.bind_some,hx,hb,hl,if_true,Option.map_some]; rfl,?_⟩
    rcases zhp h with ⟨q,h⟩ | ⟨q,h⟩
    ·rw [if_pos (by simpa using q)]; exact h
    ·rw [if_neg (by simpa using q)]; exact h
   ·rename_i cs hb
    obtain ⟨hl,h⟩:=zB h
    refine ⟨_,by simp only [zk,yp,e,Option.bind_eq_bind,Option.bind_some,hx,hb,hl,if_true,Option.map_some]; rfl,?_⟩
    rcases zhp h with ⟨q,h⟩ | ⟨q,h⟩
    ·rw [if_pos (by simpa using q)]; exact h
    ·rw [if_neg (by simpa using q)]; exact h
   ·cases h
  ·rename_i q cs hx
   obtain ⟨hl,h⟩:=zB h
   exact ⟨_,by simp only [zk,yp,e,Option.bind_eq_bind,Option.bind_some,hx,hl,if_true,Option.map_some],h⟩
  ·cases h
 | sliceS sz x lo hi mx =>
  simp only [zbJ] at h
  split at h
  ·rename_i sz' es hx
   obtain ⟨l,hh,m,e,h⟩:=zjz h
   obtain ⟨hs,h⟩:=zB h
   cases mx with
   | none=>exact ⟨σ.put dst (.sl sz ((es.drop l).take (hh - l))),by simp [zk,yp,e,hx,hs],h⟩
   | some s =>
    refine ⟨_,by simp only [zk,yp,e,hx,hs,Option.bind_eq_bind,Option.bind_some,if_true,Option.map_some]; rfl,?_⟩
    rcases zhp h with ⟨q,h⟩ | ⟨q,h⟩
    ·rw [if_pos ⟨by simp,by simpa using q⟩]; rw [← hs]; exact h
    ·rw [if_neg (by simpa using q)]; rw [← hs]; exact h
  ·rename_i id off len sz' hx
   obtain ⟨l,hh,m,e,h⟩:=zjz h
   obtain ⟨hs,h2⟩:=zB h
   subst hs
   cases mx with
   | none=>exact ⟨_,by simp only [zk,yp,e,hx,Option.bind_eq_bind,Option.bind_some,if_true,Option.map_some,Option.isSome_none,Bool.false_eq_true,if_false],h2⟩
   | some s =>
    refine ⟨_,by simp only [zk,yp,e,hx,Option.bind_eq_bind,Option.bind_some,if_true,Option.map_some,Option.isSome_some]; rfl,?_⟩
    rcases zhp h2 with ⟨q,h⟩ | ⟨q,h⟩
    ·rw [if_pos (by simpa using q)]; exact h
    ·rw [if_neg (by simpa using q)]; exact h
  ·rename_i id off len cap sz' hx
   cases hi with
   | none=>cases h
   | some s0 =>
    cases mx with
    | some _=>cases h
    | none =>
     obtain ⟨l,hh,m,e,h⟩:=zjz h
     obtain ⟨hs,h2⟩:=zB h
     subst hs
     exact ⟨_,by simp only [zk,yp,e,hx,Option.bind_eq_bind,Option.bind_some,if_true,Option.map_some,Option.isSome_some,Option.isNone_none,and_self],h2⟩
  ·cases h
 | sliceC sz x hi =>
  simp only [zbJ] at h
  split at h
  ·rename_i id off len sz' hx
   cases hi with
   | none=>cases h
   | some s0 =>
    obtain ⟨l,hh,m,e,h⟩:=zjz h
    obtain ⟨hs,h2⟩:=zB h
    subst hs
    exact ⟨_,by simp only [zk,yp,e,hx,Option.bind_eq_bind,Option.bind_some,if_true,Option.map_some,Option.isSome_some,and_self],h2⟩
  ·cases h
 | field agg o n x =>
  simp only [zbJ] at h
  split at h
  ·rename_i cs hx
   cases agg with
   | true=>exact ⟨_,by simp [zk,yp,hx],h⟩
   | false =>
    obtain ⟨v,e,h⟩:=zo4 h
    exact ⟨_,by simp [zk,yp,hx,e],h⟩
  ·rename_i cs hx
   cases agg with
   | true=>cases h
   | false =>
    simp only at h
    split at h
    ·rename_i v e
     exact ⟨_,by simp [zk,yp,hx,e],h⟩
    ·cases h
  ·cases h
 | indexAddrA len sz x i =>
  obtain ⟨k1,j,e1,h⟩:=zim h
  obtain ⟨hj,h⟩:=zB h
  split at h
  ·rename_i id off hx
   exact ⟨_,by simp [zk,yp,hx,e1,V.int?,hj],h⟩
  ·rename_i q cs hx
   obtain ⟨hl,h⟩:=zB h
   exact ⟨_,by simp [zk,yp,hx,e1,V.int?,hj,hl],h⟩
  ·cases h
 | indexAddrS sz x i =>
  obtain ⟨k1,j,e1,h⟩:=zim h
  split at h
  ·rename_i sz' es hx
   obtain ⟨hs,h2⟩:=zB h
   obtain ⟨hj,cc,e,h3⟩:=zCs h2
   subst hs
   exact ⟨_,by simp [zk,yp,hx,e1,V.int?,hj,e],h3⟩
  ·rename_i id off len sz' hx
   obtain ⟨hs,h2⟩:=zB h
   obtain ⟨hj,h3⟩:=zB h2
   subst hs
   exact ⟨_,by simp [zk,yp,hx,e1,V.int?,hj],h3⟩
  ·cases h
 | arrP n sz x =>
  simp only [zbJ] at h
  split at h
  ·rename_i sz' es hx
   obtain ⟨hs,h2⟩:=zB h
   obtain ⟨hp,h3⟩:=zB h2
   obtain ⟨hl,h4⟩:=zB h3
   subst hs
   exact ⟨_,by simp [zk,yp,hx,hp,hl],h4⟩
  ·rename_i id off len sz' hx
   obtain ⟨hs,h2⟩:=zB h
   obtain ⟨hp,h3⟩:=zB h2
   obtain ⟨hl,h4⟩:=zB h3
   subst hs
   exact ⟨_,by simp [zk,yp,hx,hp,hl],h4⟩
  ·cases h
 | indexA agg len sz x i =>
  obtain ⟨k1,j,e1,h⟩:=zim h
  obtain ⟨hj,h⟩:=zB h
  split at h
  ·rename_i cs hx
   cases agg with
   | true=>exact ⟨_,by simp [zk,yp,hx,e1,V.int?,hj],h⟩
   | false =>
    obtain ⟨v,e,h⟩:=zo4 h
    exact ⟨_,by simp [zk,yp,hx,e1,V.int?,hj,e],h⟩
  ·cases h
 | load agg n a take =>
  simp only [zbJ] at h
  split at h
  ·rename_i id off hx
   split at h
   ·rename_i p cs hb
    cases agg with
    | true =>
     obtain ⟨hl,h⟩:=zB h
     cases p with
     | true=>exact ⟨_,by simp [zk,hx,hb,hl],h⟩
     | false =>
      cases take with
      | true =>
       obtain ⟨vs,e,h⟩:=zA7 h
       exact ⟨_,by simp [zk,hx,hb,hl,e],h⟩
      | false =>
       obtain ⟨vs,e,h⟩:=zpG h
       exact ⟨_,by simp [zk,hx,hb,hl,e],h⟩
    | false =>
     cases take with
     | true =>
      cases p with
      | true=>cases h
      | false =>
       obtain ⟨v,e,h⟩:=zlj h
       exact ⟨_,by simp [zk,hx,hb,e],h⟩
     | false =>
      obtain ⟨v,e,h⟩:=zzU h
      exact ⟨_,by simp [zk,hx,hb,e],h⟩
   ·rename_i cs hb
    cases agg with
    | true =>
     obtain ⟨hl,h⟩:=zB h
     exact ⟨_,by simp [zk,hx,hb,hl],h⟩
    | false =>
     obtain ⟨v,e,h⟩:=zo4 h
     exact ⟨_,by simp [zk,hx,hb,e],h⟩
   ·cases h
  ·rename_i q cs hx
   cases agg with
   | true =>
    obtain ⟨hl,h⟩:=zB h
    exact ⟨_,by simp [zk,hx,hl],h⟩
   | false =>
    obtain ⟨v,e,h⟩:=zo4 h
    exact ⟨_,by simp [zk,hx,e],h⟩
  ·cases h
 | store n a x =>
  cases dst with
  | some d=>cases h
  | none =>
  simp only [zbJ] at h
  split at h
  ·rename_i id off hx
   split at h
   ·rename_i cs hb
    split at h
    ·rename_i v hv
     obtain ⟨hl,h⟩:=zB h
     exact ⟨_,by simp [zk,hx,hb,hv,hl],h⟩
    ·cases h
   ·rename_i cs hb
    cases hxv:x.get σ <;> simp only [hxv] at h
    case agg us =>
     obtain ⟨hl,h⟩:=zB (zpJ h)
     exact ⟨_,by simp [zk,hx,hb,hxv,hl],h⟩
    case st us =>
     obtain ⟨hl,h⟩:=zB h
     exact ⟨_,by simp [zk,hx,hb,hxv,hl],h⟩
    case tup=>cases h
    case bx=>cases h
    case fr=>cases h
    case junk=>cases h
    all_goals
     obtain ⟨hl,h⟩:=zB h
     exact ⟨_,by simp [zk,hx,hb,hxv,hl],h⟩
   ·cases h
  ·cases h
 | append sz bytes s x =>
  simp only [zbJ] at h
  split at h
  ·rename_i sz1 es hs
   obtain ⟨u,e,h⟩:=zgz h
   split at h
   ·rename_i sz2 es2
    obtain ⟨⟨h1,h2⟩,h⟩:=zB h
    obtain ⟨h3,h⟩:=zB h
    cases pin with
    | true =>
     simp only at h
     split at h
     ·obtain ⟨σ',e3,h⟩:=zec h
      refine ⟨σ',?_,h⟩
      simp only [zk,hs,e]
      rw [if_pos ⟨h1,.inl h2,h3⟩]
      exact e3
     ·cases h
    | false =>
     refine ⟨_,?_,h⟩
     simp only [zk,hs,e]
     rw [if_pos ⟨h1,.inl h2,h3⟩]
     rfl
   ·cases h
  ·rename_i sz1 hs
   obtain ⟨u,e,h⟩:=zgz h
   split at h
   ·rename_i sz2 es2
    obtain ⟨⟨h1,h2⟩,h⟩:=zB h
    obtain ⟨h3,h⟩:=zB h
    obtain ⟨σ',e3,h⟩:=zec h
    refine ⟨σ',?_,h⟩
    simp only [zk,hs,e]
    rw [if_pos ⟨h1,.inl h2,h3⟩]
    exact e3
   ·cases h
  ·rename_i id off len sz1 hs
   obtain ⟨u,e,h⟩:=zgz h
   split at h
   ·rename_i sz2 es2
    split at h
    ·rename_i cs hb
     obtain ⟨⟨h1,h2,h0⟩,h⟩:=zB h
     obtain ⟨h3,h⟩:=zB h
     obtain ⟨σ',e3,h⟩:=zec h
     refine ⟨σ',?_,h⟩
     simp only [zk,hs,e,hb]
     rw [if_pos ⟨h1,.inl h2,h0,h3⟩]
     exact e3
    ·cases h
   ·cases h
  ·rename_i id off len cap sz1 hs
   obtain ⟨u,e,h⟩:=zgz h
   split at h
   ·rename_i sz2 es2
    split at h
    ·rename_i cs hb
     split at h
     ·obtain ⟨⟨h1,h2,h0⟩,h⟩:=zB h
      obtain ⟨h3,h⟩:=zB h
      refine ⟨_,?_,h⟩
      simp only [zk,hs,e,hb]
      rw [if_pos ⟨h1,.inl h2,h0,h3,trivial⟩]
     ·cases h
    ·cases h
   ·cases h
  ·cases h
 | unpin x =>
  cases pin with
  | true=>simp only [zbJ] at h; cases h
  | false =>
   simp only [zbJ] at h
   split at h
   ·rename_i id off len sz hx
    split at h
    ·rename_i cs hb
     obtain ⟨h1,h2⟩:=zB h
     exact ⟨_,by simp only [zk,hx,hb]; rw [if_neg (by simp),if_pos h1],h2⟩
    ·cases h
   ·rename_i sz es hx
    exact ⟨_,by simp only [zk,hx]; rw [if_neg (by simp)],h⟩
   ·cases h
 | clear sz zero x =>
  simp only [zbJ] at h
  split at h
  ·rename_i id off len sz1 hx
   split at h
   ·rename_i cs hb
    obtain ⟨h1,h⟩:=zB h
    exact ⟨_,by simp only [zk,hx,hb,h1,if_true],h⟩
   ·cases h
  ·cases h
 | appendZ sz bytes zero s x =>
  simp only [zbJ] at h
  split at h
  ·rename_i sz1 es hs
   obtain ⟨kd,n,e,h⟩:=zim h
   obtain ⟨h1,h⟩:=zB h
   obtain ⟨h2,h⟩:=zB h
   cases pin with
   | true=>cases h
   | false =>
    refine ⟨_,?_,h⟩
    simp only [zk,hs,e,V.int?]
    rw [if_pos ⟨h1,h2⟩]
    rfl
  ·cases h
 | extract x i =>
  simp only [zbJ] at h
  split at h
  ·rename_i vs hx
   split at h
   ·rename_i v t hvi
    split at h
    ·rename_i hall
     simp only [Bool.and_eq_true,decide_eq_true_eq] at hall
     split at h
     ·rename_i hh
      obtain ⟨σ',e,h⟩:=zyd h
      refine ⟨σ',?_,h⟩
      simp only [zk,hx,hvi]
      rw [if_pos hall,if_pos hh]
      exact e
     ·rename_i hh
      split at h
      ·cases h
      ·refine ⟨_,?_,h⟩
       simp only [zk,hx,hvi]
       rw [if_pos hall,if_neg (by simp [hh])]
       rfl
    ·cases h
   ·cases h
  ·cases h
 | call f args xs =>
  simp only [zbJ] at h
  split at h
  ·rename_i vs e
   obtain ⟨σ',e2,h⟩:=zuI hc h
   exact ⟨σ',by simp only [zk,e]; exact e2,h⟩
  ·cases h
 | callv f args xs =>
  simp only [zbJ] at h
  split at h
  ·rename_i g caps hg
   split at h
   ·rename_i vs e
    obtain ⟨σ',e2,h⟩:=zuI hc h
    exact ⟨σ',by simp only [zk,hg,e]; exact e2,h⟩
   ·cases h
  ·cases h
 | mlook kd ok zero x y =>
  simp only [zbJ] at h
  split at h
  ·rename_i id hx
   split at h
   ·rename_i es hes
    unfold mAt at h
    split at h
    ·rename_i hko
     split at h
     ·rename_i q hq
      have h:=zv7 h
      cases ok with
      | true=>exact ⟨_,by simp only [zk,hx,hes,hko,if_true,hq,Option.bind_eq_bind,Option.bind_some,Option.pure_def],h⟩
      | false=>exact ⟨_,by simp only [zk,hx,hes,hko,if_true,hq,Option.bind_eq_bind,Option.bind_some,Option.pure_def,Bool.false_eq_true,if_false],h⟩
     ·cases h
    ·cases h
   ·cases h
  ·cases h
 | mput kd x y z =>
  simp only [zbJ] at h
  split at h
  ·cases h
  ·split at h
   ·rename_i id hx
    split at h
    ·rename_i es hes
     split at h
     ·rename_i v hv
      unfold zAh at h
      split at h
      ·rename_i hko
       split at h
       ·rename_i q hq
        refine ⟨_,?_,h⟩
        simp only [zk,Option.isSome_none,Bool.false_eq_true,if_false,hx,hes,hko,if_true,hv,hq,Option.bind_eq_bind,Option.bind_some,Option.pure_def]
       ·cases h
      ·cases h
     ·cases h
    ·cases h
   ·cases h
 | _=>exact zCp rfl h
theorem zuR (hc:zkC c cb) {σ:St} {o:COp} {κ:St→St→Option β} (h:zsU sh c nb σ o κ=some r):∃ σ',xw cb nb σ o=some σ'∧κ σ σ'=some r:=by
 unfold zsU at h
 split at h
 ·rename_i hg
  obtain ⟨σ',e,h⟩:=ztL hc h
  exact ⟨σ',by simp only [xw,hg,zaP]; exact e,h⟩
 ·rename_i j want hg
  split at h
  ·rename_i b hj
   cases want with
   | true =>
    rcases zhp h with ⟨rfl,h⟩ | ⟨rfl,h⟩
    ·simp only [lt] at h
     rw [St.set_same hj] at h
     obtain ⟨σ',e,h⟩:=ztL hc h
     exact ⟨σ',by simp only [xw,hg,zaP,hj]; exact e,h⟩
    ·simp only [lt] at h
     rw [St.set_same hj] at h
     exact ⟨_,by simp only [xw,hg,zaP,hj]; rfl,h⟩
   | false =>
    rcases zhp h with ⟨rfl,h⟩ | ⟨rfl,h⟩
    ·simp only [lt] at h
     rw [St.set_same hj] at h
     exact ⟨_,by simp only [xw,hg,zaP,hj]; rfl,h⟩
    ·simp only [lt] at h
     rw [St.set_same hj] at h
     obtain ⟨σ',e,h⟩:=ztL hc h
     exact ⟨σ',by simp only [xw,hg,zaP,hj]; exact e,h⟩
  ·rename_i hj
   exact ⟨_,by simp only [xw,hg,zaP,hj],h⟩
  ·cases h
theorem zto (hc:zkC c cb):∀ {ops:List COp} {σ:St} {κ:St→Option β},zt9 sh c nb ops σ κ=some r→∃ σ',zgp cb nb ops σ=some σ'∧κ σ'=some r
 | [],σ,κ,h=>⟨σ,rfl,h⟩
 | o::ops,σ,κ,h=>by
  obtain ⟨σ1,e1,h⟩:=zuR hc h
  obtain ⟨σ2,e2,h⟩:=zto hc h
  exact ⟨σ2,by simp only [zgp,e1,Option.bind_some]; exact e2,h⟩
theorem zwu (hc:zkC c cb):∀ {ops:List (COp × Fl)} {σ:St} {κ:St→Option β},zxJ sh c nb ops σ κ=some r→∃ σ',zjL cb nb ops σ=some σ'∧κ σ'=some r
 | [],σ,κ,h=>⟨σ,rfl,h⟩
 | (o,q)::ops,σ,κ,h=>by
  obtain ⟨σ1,e1,h⟩:=zuR hc h
  split at h
  ·rename_i hq
   obtain ⟨σ2,e2,h⟩:=zwu hc h
   exact ⟨σ2,by simp only [zjL,e1,hq,if_true]; exact e2,h⟩
  ·cases h
theorem zxS {body:St→KT β→Option β} {bodyN:St→Option (Ex × St)} {norm:St→St} (hb:∀ σ K,body σ K=some r→∃ ex σ',bodyN σ=some (ex,σ')∧K ex σ'=some r):∀ (n:Nat) (σ:St) (K:KT β),xG body norm n (norm σ) K=some r→∃ ex σ',zk7 bodyN norm n σ=some (ex,σ')∧K ex σ'=some r
 | 0,σ,K,h=>by cases h
 | n+1,σ,K,h=>by
  obtain ⟨ex,σ1,e,h⟩:=hb _ _ h
  cases ex with
  | normal =>
   obtain ⟨ex,σ2,e2,h⟩:=zxS hb n σ1 K h
   exact ⟨ex,σ2,by simp only [zk7,e]; exact e2,h⟩
  | exit j=>exact ⟨_,_,by simp only [zk7,e],h⟩
  | ret=>exact ⟨_,_,by simp only [zk7,e],h⟩
theorem zBF {σ σ':St} {dst:Option Nat} {pin:Bool} {k:K} (h:zk (fun _ _ _=>none) nb σ dst pin k=some σ'):zk cb nb σ dst pin k=some σ':=by
 cases k with
 | call f args xs =>
  simp only [zk,zdj,Option.bind_eq_bind,Option.bind_eq_some_iff,Prod.exists] at h
  obtain ⟨_,_,_,_,_,_,h,_⟩:=h
  cases h
 | callv f args xs =>
  simp only [zk] at h
  split at h
  ·simp only [zdj,Option.bind_eq_bind,Option.bind_eq_some_iff,Prod.exists] at h
   obtain ⟨_,_,_,_,_,_,h,_⟩:=h
   cases h
  ·cases h
 | _=>exact h
theorem zwC {σ σ':St} {o:COp} (h:xw (fun _ _ _=>none) nb σ o=some σ'):xw cb nb σ o=some σ':=by
 unfold xw at h ⊢
 split at h
 ·exact zBF h
 ·exact h
 ·cases h
theorem zuU:∀ {ops:List COp} {σ σ':St},zgp (fun _ _ _=>none) nb ops σ=some σ'→zgp cb nb ops σ=some σ'
 | [],σ,σ',h=>h
 | o::ops,σ,σ',h=>by
  simp only [zgp,Option.bind_eq_some_iff] at h ⊢
  obtain ⟨σ1,h1,h2⟩:=h
  exact ⟨σ1,zwC h1,zuU h2⟩
theorem zxP:∀ {ops:List (COp × Fl)} {σ σ':St},zjL (fun _ _ _=>none) nb ops σ=some σ'→zjL cb nb ops σ=some σ'
 | [],σ,σ',h=>h
 | (o,q)::ops,σ,σ',h=>by
  simp only [zjL] at h ⊢
  split at h
  ·rename_i σ1 h1
   rw [zwC h1]
   split at h
   ·rename_i hq
    simp only [hq,if_true]
    exact zxP h
   ·cases h
  ·cases h
theorem zuQ:∀ (cc:CC) (σ:St) (r:Ex × St),run (fun _ _ _=>none) nb L cc σ=some r→run cb nb L cc σ=some r:=by
 intro cc
 induction cc with
 | skip=>intro σ r h; exact h
 | reg ops =>
  intro σ r h
  simp only [run,Option.map_eq_some_iff] at h ⊢
  obtain ⟨σ1,h1,h2⟩:=h
  exact ⟨σ1,zuU h1,h2⟩
 | dreg fz ops =>
  intro σ r h
  simp only [run,Option.map_eq_some_iff] at h ⊢
  obtain ⟨σ1,h1,h2⟩:=h
  exact ⟨σ1,zxP h1,h2⟩
 | seq a b iha ihb =>
  intro σ r h
  simp only [run] at h ⊢
  split at h
  ·rename_i σ1 h1
   rw [iha _ _ h1]
   exact ihb _ _ h
  ·rename_i hne
   obtain ⟨ex,σ1⟩:=r
   rw [iha _ _ h]
   cases ex with
   | normal=>exact absurd h (hne _)
   | exit j=>rfl
   | ret=>rfl
 | fork p s a b ihp iha ihb =>
  intro σ r h
  simp only [run] at h ⊢
  split at h
  ·rename_i σ1 h1
   rw [ihp _ _ h1]
   simp only
   split at h
   ·split at h
    ·rename_i hs
     obtain ⟨e,_⟩:=zt6 hs
     rw [iha _ _ (e.trans h),ihb _ _ h]
     rw [e,h] at hs
     simp only [hs,if_true]
    ·cases h
   ·split at h
    ·split at h
     ·rename_i σ2 h2
      rw [iha _ _ h2]
      exact ihb _ _ h
     ·rename_i hne
      obtain ⟨ex,σ2⟩:=r
      rw [iha _ _ h]
      cases ex with
      | normal=>exact absurd h (hne _)
      | exit j=>rfl
      | ret=>rfl
    ·exact ihb _ _ h
    ·cases h
  ·rename_i hne
   obtain ⟨ex,σ1⟩:=r
   rw [ihp _ _ h]
   cases ex with
   | normal=>exact absurd h (hne _)
   | exit j=>rfl
   | ret=>rfl
 | cond s a b iha ihb =>
  intro σ r h
  simp only [run] at h ⊢
  split at h
  ·split at h
   ·rename_i hs
    have e:=zqF hs
    rw [iha _ _ (e.trans h),ihb _ _ h]
    rw [e,h] at hs
    simp only [hs,if_true]
   ·cases h
  ·rename_i hne
   split at h
   ·rename_i t ht
    cases t with
    | true=>simp only [if_true] at h ⊢; exact iha _ _ h
    | false=>simp only [Bool.false_eq_true,if_false] at h ⊢; exact ihb _ _ h
   ·cases h
 | block id a ih =>
  intro σ r h
  simp only [run] at h ⊢
  cases ha:run (fun _ _ _=>none) nb L a σ with
  | none=>rw [ha] at h; cases h
  | some q=>rw [ha] at h; rw [ih _ _ ha]; exact h
 | loop kt kb a ih =>
  intro σ r h
  simp only [run] at h ⊢
  have key:∀ (n:Nat) (σ:St),zk7 (run (fun _ _ _=>none) nb L a) (yT nb kt kb) n σ=some r→zk7 (run cb nb L a) (yT nb kt kb) n σ=some r:=by
   intro n
   induction n with
   | zero=>intro σ h; cases h
   | succ n ihn =>
    intro σ h
    simp only [zk7] at h ⊢
    cases ha:run (fun _ _ _=>none) nb L a (yT nb kt kb σ) with
    | none=>rw [ha] at h; cases h
    | some q =>
     obtain ⟨ex,σ1⟩:=q
     rw [ha] at h
     rw [ih _ _ ha]
     cases ex with
     | normal=>exact ihn _ h
     | exit j=>exact h
     | ret=>exact h
  exact key L σ h
 | mask kt kb=>intro σ r h; exact h
 | exit id=>intro σ r h; exact h
 | ret=>intro σ r h; exact h
theorem zCH (hc:zkC c cb):∀ (cc:CC) (σ:St) (K:KT β),zn sh c nb L cc σ K=some r→∃ ex σ',run cb nb L cc σ=some (ex,σ')∧K ex σ'=some r:=by
 intro cc
 induction cc with
 | skip=>intro σ K h; exact ⟨_,_,rfl,h⟩
 | reg ops =>
  intro σ K h
  obtain ⟨σ',e,h⟩:=zto hc h
  exact ⟨_,σ',by simp only [run,e]; rfl,h⟩
 | dreg fz ops =>
  intro σ K h
  obtain ⟨σ',e,h⟩:=zwu hc (zqK nb fz σ _ h)
  exact ⟨_,σ',by simp only [run,e]; rfl,h⟩
 | seq a b iha ihb =>
  intro σ K h
  obtain ⟨ex,σ1,e,h⟩:=iha _ _ h
  cases ex with
  | normal =>
   obtain ⟨ex,σ2,e2,h⟩:=ihb _ _ h
   exact ⟨ex,σ2,by simp only [run,e]; exact e2,h⟩
  | exit j=>exact ⟨_,_,by simp only [run,e],h⟩
  | ret=>exact ⟨_,_,by simp only [run,e],h⟩
 | fork p s a b ihp iha ihb =>
  intro σ K h
  obtain ⟨ex,σ1,e,h⟩:=ihp _ _ h
  cases ex with
  | exit j=>exact ⟨_,_,by simp only [run,e],h⟩
  | ret=>exact ⟨_,_,by simp only [run,e],h⟩
  | normal =>
   simp only [zM] at h
   split at h
   ·rename_i hub
    split at h
    ·rename_i hsame
     unfold onR at h
     split at h
     ·rename_i ex σ2 e1
      obtain ⟨e0,_⟩:=zt6 hsame
      have ra:=zuQ (cb:=cb) _ _ _ (e0.trans e1)
      have rb:=zuQ (cb:=cb) _ _ _ e1
      rw [e0,e1] at hsame
      refine ⟨ex,σ2,?_,h⟩
      simp only [run,e,hub,ra,rb,hsame,if_true]
     ·cases h
    ·cases h
   ·rename_i hne
    obtain ⟨t,et,h⟩:=zmK h
    rcases zhp h with ⟨rfl,h⟩ | ⟨rfl,h⟩
    ·obtain ⟨ex,σ2,e1,h⟩:=iha _ _ h
     cases ex with
     | normal =>
      obtain ⟨ex,σ3,e2,h⟩:=ihb _ _ h
      exact ⟨ex,σ3,by simp only [run,e,et,V.bool?,e1]; exact e2,h⟩
     | exit j=>exact ⟨_,_,by simp only [run,e,et,V.bool?,e1],h⟩
     | ret=>exact ⟨_,_,by simp only [run,e,et,V.bool?,e1],h⟩
    ·obtain ⟨ex,σ2,e1,h⟩:=ihb _ _ h
     exact ⟨ex,σ2,by simp only [run,e,et,V.bool?]; exact e1,h⟩
 | cond s a b iha ihb =>
  intro σ K h
  simp only [zn] at h
  split at h
  ·rename_i hub
   split at h
   ·rename_i hsame
    unfold onR at h
    split at h
    ·rename_i ex σ1 e1
     have e0:=zqF hsame
     have ra:=zuQ (cb:=cb) _ _ _ (e0.trans e1)
     have rb:=zuQ (cb:=cb) _ _ _ e1
     rw [e0,e1] at hsame
     refine ⟨ex,σ1,?_,h⟩
     simp only [run,hub,ra,rb,hsame,if_true]
    ·cases h
   ·cases h
  ·rename_i hne
   obtain ⟨t,e,h⟩:=zmK h
   rcases zhp h with ⟨rfl,h⟩ | ⟨rfl,h⟩
   ·obtain ⟨ex,σ1,e1,h⟩:=iha _ _ h
    exact ⟨ex,σ1,by simp only [run,e,V.bool?,if_true]; exact e1,h⟩
   ·obtain ⟨ex,σ1,e1,h⟩:=ihb _ _ h
    exact ⟨ex,σ1,by simp only [run,e,V.bool?,Bool.false_eq_true,if_false]; exact e1,h⟩
 | block id a ih =>
  intro σ K h
  obtain ⟨ex,σ1,e,h⟩:=ih _ _ h
  cases ex with
  | normal=>exact ⟨_,_,by simp only [run,e],h⟩
  | exit j =>
   simp only [yy] at h
   split at h
   ·rename_i hj
    have hj:=Nat.eq_of_beq_eq_true hj
    exact ⟨_,_,by simp only [run,e,hj,if_true],h⟩
   ·rename_i hj
    have:j≠id:=Nat.ne_of_beq_eq_false hj
    exact ⟨_,_,by simp only [run,e,this,if_false],h⟩
  | ret=>exact ⟨_,_,by simp only [run,e],h⟩
 | loop kt kb a ih =>
  intro σ K h
  obtain ⟨ex,σ',e,h⟩:=zxS ih L σ K h
  exact ⟨ex,σ',by simp only [run]; exact e,h⟩
 | mask kt kb=>intro σ K h; exact ⟨_,_,rfl,h⟩
 | exit id=>intro σ K h; exact ⟨_,_,rfl,h⟩
 | ret=>intro σ K h; exact ⟨_,_,rfl,h⟩
theorem zut {σ:St} {rv:RV} {k:V→Option β} (h:znO nb σ rv k=some r):∃ v,zam nb σ rv=some v∧k v=some r:=by
 cases rv with
 | cellS t n p=>cases h
 | tmp t =>
  simp only [znO] at h
  split at h
  ·rename_i id off len sz ht
   split at h
   ·rename_i hge
    have hge:=of_decide_eq_true hge
    split at h
    ·rename_i cs hb
     split at h
     ·rename_i hd
      have hd:=of_decide_eq_true hd
      obtain ⟨hl,h⟩:=zB h
      exact ⟨_,by simp only [zam,ht]; rw [if_pos hge,if_pos hd]; simp only [hb]; rw [if_pos hl],h⟩
     ·cases h
    ·cases h
   ·rename_i hge
    have hge:=of_decide_eq_false hge
    exact ⟨_,by simp only [zam,ht]; rw [if_neg hge],h⟩
  ·rename_i id off ht
   split at h
   ·rename_i p cs hb
    split at h
    ·rename_i hd
     have hd:=of_decide_eq_true hd
     obtain ⟨hl,h⟩:=zB h
     cases p with
     | true=>exact ⟨_,by simp only [zam,ht]; rw [if_pos hd]; simp only [hb]; rw [if_pos hl]; rfl,h⟩
     | false =>
      obtain ⟨vs,e,h⟩:=zpG h
      exact ⟨_,by simp only [zam,ht]; rw [if_pos hd]; simp only [hb]; rw [if_pos hl]; simp only [Bool.false_eq_true,if_false,e,Option.map_some],h⟩
    ·cases h
   ·cases h
  ·split at h
   ·exact ⟨_,‹_›,h⟩
   ·cases h
 | tmpP t =>
  simp only [znO] at h
  split at h
  ·rename_i id off len sz ht
   split at h
   ·rename_i hge
    have hge:=of_decide_eq_true hge
    split at h
    ·rename_i cs hb
     exact ⟨_,by simp only [zam,ht]; rw [if_pos hge]; simp only [hb],h⟩
    ·cases h
   ·cases h
  ·split at h
   ·exact ⟨_,‹_›,h⟩
   ·cases h
 | cell t agg n =>
  simp only [znO] at h
  split at h
  ·rename_i id off ht
   split at h
   ·rename_i p cs hb
    cases agg with
    | true =>
     obtain ⟨hl,h⟩:=zB h
     cases p with
     | true=>exact ⟨_,by simp only [zam,ht,hb,if_true]; rw [if_pos hl],h⟩
     | false =>
      obtain ⟨vs,e,h⟩:=zpG h
      exact ⟨_,by simp only [zam,ht,hb,if_true]; rw [if_pos hl]; simp only [Bool.false_eq_true,if_false,e,Option.map_some],h⟩
    | false =>
     simp only at h
     split at h
     ·rename_i hd
      have hd:=of_decide_eq_true hd
      obtain ⟨v,e,h⟩:=zlj h
      split at h
      ·rename_i v' hv
       exact ⟨_,by simp only [zam,ht,hb,Bool.false_eq_true,if_false,hd,and_self,if_true,e,Option.bind_some]; exact hv,h⟩
      ·cases h
     ·cases h
   ·cases h
  ·cases h
theorem ztC {σ:St}:∀ {rs:List RV} {k:List V→Option β},ztQ nb σ rs k=some r→∃ vs,rs.mapM (zam nb σ)=some vs∧k vs=some r
 | [],k,h=>⟨[],rfl,h⟩
 | x::rs,k,h=>by
  obtain ⟨v,e,h⟩:=zut h
  obtain ⟨vs,e2,h⟩:=ztC h
  exact ⟨v::vs,by simp [List.mapM_cons,e,e2],h⟩
theorem zyU {σ:St} {rs:List RV} {k:V→Option β} (h:zqY nb σ rs k=some r):∃ v,results nb σ rs=some v∧k v=some r:=by
 unfold zqY at h
 split at h
 ·rename_i hd
  split at h
  ·obtain ⟨v,e,h⟩:=zut h
   exact ⟨v,by simp only [results,hd,if_true]; exact e,h⟩
  ·rename_i hne
   obtain ⟨vs,e,h⟩:=ztC h
   refine ⟨.tup vs,?_,h⟩
   simp only [results,hd,if_true,e,Option.map_some]
 ·cases h
theorem zp8 {b:List B} {ids:List Nat}:∀ {l:List Nat} {k:Bor→Option β},zrZ b nb ids l k=some r→∃ bor,zmb b nb ids l=some bor∧k bor=some r
 | [],k,h=>⟨[],rfl,h⟩
 | id::l,k,h=>by
  simp only [zrZ] at h
  split at h
  ·rename_i p cs hb
   cases p with
   | true =>
    obtain ⟨bor,e,h⟩:=zp8 (l:=l) h
    exact ⟨_,by simp only [zmb,hb,B.lend,B.isRow,Bool.true_or,Bool.or_true,Bool.and_self,if_true,e,Option.map_some,B.ren],h⟩
   | false =>
    simp only at h
    split at h
    ·rename_i hd
     obtain ⟨hl,h⟩:=zB h
     obtain ⟨bor,e,h⟩:=zp8 (l:=l) h
     exact ⟨_,by simp only [zmb,hb,B.lend,Bool.false_or,hl,hd,Bool.true_or,Bool.and_self,if_true,e,Option.map_some,B.ren,Bool.false_eq_true,if_false],h⟩
    ·cases h
  ·rename_i es hb
   split at h
   ·rename_i hd
    obtain ⟨bor,e,h⟩:=zp8 (l:=l) h
    exact ⟨_,by simp only [zmb,hb,B.lend,hd,Bool.true_or,Bool.and_self,if_true,e,Option.map_some,B.ren],h⟩
   ·cases h
  ·rename_i n hb
   split at h
   ·rename_i hd
    obtain ⟨bor,e,h⟩:=zp8 (l:=l) h
    exact ⟨_,by simp only [zmb,hb,B.lend,hd,Bool.true_or,Bool.and_self,if_true,e,Option.map_some,B.ren],h⟩
   ·cases h
  ·cases h
theorem zzd {σ:St} {rs:List RV} {k:V→Bor→Option β} (h:(match zhG σ.t.length rs σ with
  | some (σ,rs)=>zqY nb σ rs fun v=>zrZ σ.b nb (zen nb v) (zen nb v) fun b=>match zeX (zen nb v) with
   | true=>k (zlh (yM (zen nb v)) v) b
   | false=>none
  | none=>none)=some r):∃ v b,zqn nb σ rs=some (v,b)∧k v b=some r:=by
 split at h
 rotate_left
 ·cases h
 rename_i σ1 rs1 hu
 obtain ⟨v,e1,h⟩:=zyU h
 obtain ⟨b,e2,h⟩:=zp8 h
 split at h
 ·rename_i hd
  refine ⟨_,b,?_,h⟩
  simp only [zqn,hu,zsN,e1,e2,Option.bind_eq_bind,Option.bind_some,hd,if_true,Option.pure_def]
 ·cases h
theorem zCh {T:Nat→Option CF} {pr:CB} {d:Nat} {f:Nat} (hc:zkC c (evF T pr L d)) {cf:CF} (hT:T f=some cf) {args:List V} {bor:Bor} {k:V→Bor→Option β} (h:zK sh c L cf args bor k=some r):∃ v b,evF T pr L (d+1) f args bor=some (v,b)∧k v b=some r:=by
 have h:zxw sh c L cf args bor k=some r:=by
  unfold zK at h
  split at h
  ·rename_i sz es rest _
   cases es with
   | nil=>exact h
   | cons a l=>exact h
  ·exact h
 obtain ⟨ex,σ',e,h⟩:=zCH hc _ _ _ h
 cases ex with
 | exit j=>cases h
 | normal =>
  obtain ⟨v,b,e1,h⟩:=zzd h
  exact ⟨v,b,by simp only [evF,hT,e,e1],h⟩
 | ret =>
  obtain ⟨v,b,e1,h⟩:=zzd h
  exact ⟨v,b,by simp only [evF,hT,e,e1],h⟩
def FOk (T:Nat→Option CF) (L g:Nat) (d:∀ (β:Type),List V→Bor→(V→Bor→Option β)→Option β) (D:Nat):Prop:=∀ n,D≤n→∀ (β:Type) (args:List V) (bor:Bor) (k:V→Bor→Option β) (r:β),d β args bor k=some r→∃ v b,evF T zqH L n g args bor=some (v,b)∧k v b=some r
theorem zak {cb:CB}:zkC noC cb:=by
 intro β f args bor k r h; cases h
theorem yR {c:CBC} {cb:CB} (hc:zkC c cb) {g:Nat} {d:∀ (β:Type),List V→Bor→(V→Bor→Option β)→Option β} (hd:∀ (β:Type) (args:List V) (bor:Bor) (k:V→Bor→Option β) (r:β),d β args bor k=some r→∃ v b,cb g args bor=some (v,b)∧k v b=some r):zkC (xB g d c) cb:=by
 intro β f args bor k r h
 unfold xB at h
 split at h
 ·rename_i hf
  rw [Nat.eq_of_beq_eq_true hf]
  exact hd _ _ _ _ _ h
 ·exact hc _ _ _ _ _ _ h
theorem zan {T:Nat→Option CF} {L g:Nat} {cf:CF} (hT:T g=some cf) {d:∀ (β:Type),List V→Bor→(V→Bor→Option β)→Option β} {D:Nat}
  (h:∀ m,D≤m→∃ (sh:Nat→Sh) (c:CBC),zkC c (evF T zqH L m)∧∀ (β:Type) (args:List V) (bor:Bor) (k:V→Bor→Option β) (r:β),d β args bor k=some r→zK sh c L cf args bor k=some r):FOk T L g d (D+1):=by
 intro n hn β args bor k r hr
 obtain ⟨m,rfl⟩:∃ m,n=m+1:=⟨n - 1,by omega⟩
 obtain ⟨sh,c,hc,hd⟩:=h m (by omega)
 exact zCh hc hT (hd _ _ _ _ _ hr)
theorem zvt {β:Type} (kd:IntKind) (n:Int) (k:Int→Option β):aI kd (.sc (.int kd n)) k=k n:=by show chk (kd=kd) (k n)=k n; rw [zfr,if_pos rfl]
theorem zD0 {β:Type} (b:Bool) (k:Bool→Option β):aB (.sc (.bool b)) k=k b:=rfl
theorem zAe {β:Type} (sz:Nat) (l:List (List V)) (k:List (List V)→Option β):aL sz (.sl sz l) k=k l:=by show chk (sz=sz) (k l)=k l; rw [zfr,if_pos rfl]
end
end
end Go.Proofs.Ytpbbfpfmdckclaa
