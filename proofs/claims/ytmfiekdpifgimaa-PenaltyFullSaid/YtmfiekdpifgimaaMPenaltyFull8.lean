/- Part 8 of the proof of PenaltyFull: an abstract machine over plain values, its soundness, and the functions of the program on plain values. -/
import Derived.Shelf.Spec.SlicesGrow
import Derived.Test.YtmfiekdpifgimaaMPenaltyFull7
namespace Go.Proofs.Ytmfiekdpifgimaa
section
def hi0 (n:Nat):Nat:=n
def hi1 (n:Nat):Nat:=hi0 n
def hi2 (n:Nat):Nat:=hi1 n
def hi3 (n:Nat):Nat:=hi2 n
def hi4 (n:Nat):Nat:=hi3 n
def hi5 (n:Nat):Nat:=hi4 n
def hi6 (n:Nat):Nat:=hi5 n
def hi7 (n:Nat):Nat:=hi6 n
def hi8 (n:Nat):Nat:=hi7 n
def hi9 (n:Nat):Nat:=hi8 n
def zoW (n:Nat):Nat:=hi9 n
def zo3 (n:Nat):Nat:=zoW n
def zoU (n:Nat):Nat:=zo3 n
def zo1 (n:Nat):Nat:=zoU n
def zoT (n:Nat):Nat:=zo1 n
def zoN (n:Nat):Nat:=zoT n
def zoP (n:Nat):Nat:=zoN n
def zoX (n:Nat):Nat:=zoP n
def zoY (n:Nat):Nat:=zoX n
def zoO (n:Nat):Nat:=zoY n
def zo4 (n:Nat):Nat:=zoO n
def zoM (n:Nat):Nat:=zo4 n
def zoV (n:Nat):Nat:=zoM n
def zo2 (n:Nat):Nat:=zoV n
def zlG (n:Nat):Nat:=zo2 n
section
variable {β:Type}
def chk (p:Prop) [inst:Decidable p] (k:Option β):Option β:=(fun (_:Nat→Nat)=>match inst with
 | .isTrue _=>k
 | .isFalse _=>none) hi0
theorem zbN (p:Prop) [inst:Decidable p] (k:Option β):chk p k=if p then k else none:=by
 cases inst <;> rfl
def ifb (t:Bool) (a b:Option β):Option β:=(fun (_:Nat→Nat)=>match t with
 | true=>a
 | false=>b) hi0
def lt {α:Type} (a:α) (k:α→Option β):Option β:=k a
def aI (kd:IntKind) (v:V) (k:Int→Option β):Option β:=match v with
 | .sc (.int kd' n)=>chk (kd'=kd) (k n)
 | _=>none
def zff (v:V) (k:Int→Option β):Option β:=(fun (_:Nat→Nat)=>match v with
 | .sc (.int _ n)=>k n
 | _=>none) hi0
def aB (v:V) (k:Bool→Option β):Option β:=(fun (_:Nat→Nat)=>match v with
 | .sc (.bool b)=>k b
 | _=>none) hi0
def aS (v:V) (k:ByteArray→Option β):Option β:=(fun (_:Nat→Nat)=>match v with
 | .sc (.string s)=>k s
 | _=>none) hi0
def aL (sz:Nat) (v:V) (k:List (List V)→Option β):Option β:=match v with
 | .sl sz' es=>chk (sz'=sz) (k es)
 | _=>none
def aLd (sz:Nat) (v:V) (k:List (List V)→Option β):Option β:=match v with
 | .sl sz' es=>chk (sz'=sz) (k es)
 | .gs sz' es=>chk (sz'=sz) (k es)
 | _=>none
def aGw (sz:Nat) (v:V) (k:List (List V)→Option β):Option β:=match v with
 | .gs sz' es=>chk (sz'=sz) (k es)
 | _=>none
def aA (n:Nat) (v:V) (k:List V→Option β):Option β:=match v with
 | .agg cs=>chk (cs.length=n) (k cs)
 | _=>none
def aG (v:V) (k:List V→Option β):Option β:=(fun (_:Nat→Nat)=>match v with
 | .agg cs=>k cs
 | _=>none) hi0
def aGs (sz:Nat) (v:V) (k:List (List V)→Option β):Option β:=match v with
 | .gs sz' es=>chk (sz'=sz) (k es)
 | _=>none
def aP (id off:Nat) (v:V) (k:Option β):Option β:=match v with
 | .ptr i o=>chk (i=id∧o=off) (k)
 | _=>none
def aM (id:Nat) (v:V) (k:Option β):Option β:=match v with
 | .mp i=>chk (i=id) (k)
 | _=>none
def aO (id sz:Nat) (v:V) (k:Nat→Nat→Option β):Option β:=match v with
 | .own i o l s=>chk (i=id∧s=sz) (k o l)
 | _=>none
def aO0 (id sz:Nat) (v:V) (k:Nat→Option β):Option β:=match v with
 | .own i o l s=>chk (i=id∧s=sz∧o=0) (k l)
 | _=>none
def aFp (n:Nat) (v:V) (k:List V→Option β):Option β:=match v with
 | .fp m cs=>chk (m=n) (k cs)
 | _=>none
def aV (u:Value) (v:V) (k:Option β):Option β:=match u,v with
 | .nilFunc,.sc .nilFunc=>k
 | .pointer none,.sc (.pointer none)=>k
 | .map none,.sc (.map none)=>k
 | _,_=>none
def zkU:List (Nat × Nat)→List V→Bool
 | [],[]=>true
 | (i,o)::r,.ptr a b::s=>Nat.beq i a && (Nat.beq o b && zkU r s)
 | _,_=>false
def aF (f:Nat) (caps:List (Nat × Nat)) (v:V) (k:Option β):Option β:=match v with
 | .fn g cs=>match Nat.beq f g && zkU caps cs with
  | true=>k
  | false=>none
 | _=>none
def zam (cs:List V) (off:Nat) (k:V→Option β):Option β:=match cs[off]? with
 | some v=>k v
 | none=>none
def zo5 (kb:List Bool) (cs:List V):List V:=cs.map (zdl fun id=>!(kb.getD id false))
def cG (sz:Nat) (cs:List V) (off:Nat) (k:List (List V)→Option β):Option β:=zam cs off fun v=>aGw sz v k
def idx (es:List (List V)) (j:Int) (k:List V→Option β):Option β:=chk (0≤j) (match es[j.toNat]? with
 | some c=>k c
 | none=>none)
def eqC (n:Nat) (a b:List V) (k:Bool→Option β):Option β:=chk (a.length=n∧b.length=n) (match zbp a b with
 | some r=>k r
 | none=>none)
def znj (es:List (List V)) (k:ByteArray→Option β):Option β:=match zaS es with
 | some l=>k ⟨l.toArray⟩
 | none=>none
def zol (es fs:List (List V)) (k:Int→Option β):Option β:=match zaS es with
 | some a=>match zaS fs with
  | some b=>k (Lib.compareBytes a b)
  | none=>none
 | none=>none
def zcT (cs:List V) (k:List V→Option β):Option β:=match cs.mapM V.plain with
 | some vs=>k vs
 | none=>none
def zlH (cs:List V) (k:List V→Option β):Option β:=match cs.mapM V.refd with
 | some vs=>k vs
 | none=>none
def mAt (kd:Nat) (key:V) (es:List (V × V)) (k:Option V→Option β):Option β:=match zb7 kd key with
 | true=>match zfV key es with
  | some r=>k r
  | none=>none
 | false=>none
def zow (kd:Nat) (key val:V) (es:List (V × V)) (k:List (V × V)→Option β):Option β:=match zb7 kd key with
 | true=>match zj6 key val es with
  | some r=>k r
  | none=>none
 | false=>none
def cI (kd:IntKind) (cs:List V) (off:Nat) (k:Int→Option β):Option β:=zam cs off (fun v=>aI kd v k)
def cB (cs:List V) (off:Nat) (k:Bool→Option β):Option β:=zam cs off (fun v=>aB v k)
def cS (cs:List V) (off:Nat) (k:ByteArray→Option β):Option β:=zam cs off (fun v=>aS v k)
def cL (sz:Nat) (cs:List V) (off:Nat) (k:List (List V)→Option β):Option β:=zam cs off (fun v=>aL sz v k)
def cLd (sz:Nat) (cs:List V) (off:Nat) (k:List (List V)→Option β):Option β:=zam cs off (fun v=>aLd sz v k)
end
def zpe (k:IntKind) (a b:Int):Int:=k.wrap (BitVec.ofInt k.bits a &&& BitVec.ofInt k.bits b).toNat
def ior (k:IntKind) (a b:Int):Int:=k.wrap (BitVec.ofInt k.bits a ||| BitVec.ofInt k.bits b).toNat
def zo9 (k:IntKind) (a b:Int):Int:=k.wrap (BitVec.ofInt k.bits a ^^^ BitVec.ofInt k.bits b).toNat
def zo6 (k:IntKind) (a b:Int):Int:=k.wrap (BitVec.ofInt k.bits a &&& ~~~ BitVec.ofInt k.bits b).toNat
def zoS (k:IntKind) (n:Int):Int:=k.wrap (BitVec.ofInt k.bits (if k.signed then -1 else k.max) ^^^ BitVec.ofInt k.bits n).toNat
def zpf (k:IntKind) (a b:Int):Int:=k.wrap (a * 2 ^ (min b.toNat k.bits))
def zpb (k:IntKind) (a b:Int):Int:=a.fdiv (2 ^ (min b.toNat k.bits))
def zpa (a b:Int):Int:=if b > a then b else a
def zhR (a b:Int):Int:=if b < a then b else a
inductive Sh where
 | any
 | int (k:IntKind)
 | bool
 | str
 | sl (sz:Nat)
 | gs (sz:Nat)
 | row (l:List Sh)
def asc {β:Type} (s:Sh) (v:V) (k:V→Option β):Option β:=match s with
 | .any=>k v
 | .int kd=>aI kd v (fun n=>k (.sc (.int kd n)))
 | .bool=>aB v (fun b=>k (.sc (.bool b)))
 | .str=>aS v (fun t=>k (.sc (.string t)))
 | .sl sz=>aL sz v (fun es=>k (.sl sz es))
 | .gs sz=>aGw sz v (fun es=>k (.gs sz es))
 | .row _=>none
def znr {β:Type} (s:Sh) (v:V) (k:V→Option β):Option β:=match s with
 | .gs sz=>aGw sz v (fun es=>k (.gs sz es))
 | _=>k v
def zou {β:Type} (s:Sh) (v:V) (k:V→Option β):Option β:=match s with
 | .any=>k v.dem
 | .int kd=>aI kd v (fun n=>k (.sc (.int kd n)))
 | .bool=>aB v (fun b=>k (.sc (.bool b)))
 | .str=>aS v (fun t=>k (.sc (.string t)))
 | .sl sz=>aLd sz v (fun es=>k (.sl sz es))
 | .gs sz=>aLd sz v (fun es=>k (.sl sz es))
 | .row _=>none
def zkc {β:Type}:List Sh→Nat→List V→(List V→Option β)→Option β
 | [],_,_,k=>k []
 | s::ss,i,cs,k=>zam cs i fun v=>asc s v fun v=>zkc ss (i+1) cs fun r=>k (v::r)
def zg3 {β:Type} (s:Sh) (cs:List V) (k:List V→Option β):Option β:=match s with
 | .row ss=>chk (cs.length=ss.length) (zkc ss 0 cs k)
 | _=>k cs
abbrev CBC:=∀ (β:Type),Nat→List V→Bor→(V→Bor→Option β)→Option β
section
variable {β:Type}
abbrev zbV (o:Option St) (κ:St→Option β):Option β:=match o with
 | some σ=>κ σ
 | none=>none
def ltV (v:Value) (k:Value→Option β):Option β:=match v with
 | .int kd n=>lt n fun n=>k (.int kd n)
 | v=>k v
def zny:V→V
 | .gs sz _=>.gs sz []
 | .sl sz _=>.sl sz []
 | v=>v
def zlV (t:Bool) (a b:V) (k:V→Option β):Option β:=match a,b with
 | .sc (.bool x),.sc (.bool y)=>k (.sc (.bool (cond t x y)))
 | .sc (.int kd x),.sc (.int kd' y)=>chk (kd=kd') (lt (cond t x y) (fun n=>k (.sc (.int kd n))))
 | a,b=>ifb t (k a) (k b)
def zid (σ:St):List (Nat × Nat × Src)→List V→(List V→Option β)→Option β
 | [],cs,k=>k cs
 | (off,n,x)::rest,cs,k=>match (x.get σ).plain with
  | some v=>chk (v.cells.length=n∧off+n≤cs.length) (zid σ rest (yj cs off v.cells) k)
  | none=>none
def zgJ (sh:Nat→Sh) (σ:St):List (Nat × Nat × Src)→List V→(List V→Option β)→Option β
 | [],cs,k=>k cs
 | (off,n,x)::rest,cs,k=>match x.get σ with
  | .agg us=>zg3 (sh ((x.slot).getD 0)) us fun us=>chk (us.length=n∧off+n≤cs.length) (zgJ sh σ rest (yj cs off us) k)
  | v=>match v.refd with
   | some v=>chk (v.cells.length=n∧off+n≤cs.length) (zgJ sh σ rest (yj cs off v.cells) k)
   | none=>none
def zm0 (op:BinOp) (x y:Value) (k:Value→Option β):Option β :=
 match op,x,y with
 | .shl,.int kd a,.int _ b=>chk (0≤b) (k (.int kd (kd.wrap (a * 2 ^ (min b.toNat kd.bits)))))
 | .shr,.int kd a,.int _ b=>chk (0≤b) (k (.int kd (a.fdiv (2 ^ (min b.toNat kd.bits)))))
 | .quo,.int kd a,.int kd' b=>chk (kd=kd') (chk (b≠0) (k (.int kd (kd.wrap (a.tdiv b)))))
 | .rem,.int kd a,.int kd' b=>chk (kd=kd') (chk (b≠0) (k (.int kd (a.tmod b))))
 | op,x,y=>match zek op x y with
  | some r=>k r
  | none=>none
def zgX (σ:St) (x:Option Src) (dflt:Nat) (most:Nat) (k:Nat→Option β):Option β :=
 match x with
 | none=>k dflt
 | some s=>zff (s.get σ) fun i=>chk (0≤i∧i≤most) (k i.toNat)
def zeo (σ:St) (len:Nat) (lo hi mx:Option Src) (k:Nat→Nat→Nat→Option β):Option β :=
 zgX σ mx len len fun m=>zgX σ hi len m fun h=>zgX σ lo 0 h fun l=>k l h m
def znF (l h m id off sz:Nat) (k:V→Option β):Option β:=ifb (decide (m=l)) (k (.gs sz [])) (k (.own id (off+l * sz) (h - l) sz))
def zcA (b:List B) (v:V) (k:V→Option β):Option β:=match yA b v with
 | some u=>k u
 | none=>none
def zip (sh:Sh) (cs:List V) (off:Nat) (k:V→Option β):Option β:=zam cs off (fun v=>asc sh v k)
def zmQ (sh:Sh) (cs:List V) (off:Nat) (k:V→Option β):Option β:=zam cs off (fun v=>zou sh v k)
def zjQ (nb:Nat) (σ:St) (dst:Option Nat) (pin:Bool) (v:V) (κ:St→Option β):Option β:=match v with
 | .fr sz es=>match pin with
  | true=>zbV (σ.putG nb dst true sz es) κ
  | false=>κ (σ.put dst (.gs sz es))
 | v=>zbV (σ.putR nb dst pin v) κ
def lc {α β:Type} (l:List α) (a:Option β) (b:α→List α→Option β):Option β:=match l with
 | []=>a
 | x::xs=>b x xs
def ziL (b:List B) (id:Nat) (κ:List B→Option β):Option β:=match b[id]? with
 | some (.live true cs)=>ifb cs.isEmpty (κ b) (κ (b.set id (.fz cs)))
 | _=>κ b
def zen (σ:St):List (Src × Nat)→List B→(List B→Option β)→Option β
 | [],b,κ=>κ b
 | s::rest,b,κ=>match decide (2≤s.2) with
  | true=>zen σ rest b κ
  | false=>match yr (s.1.get σ) with
   | some id=>ziL b id fun b=>zen σ rest b κ
   | none=>zen σ rest b κ
def zli (b:List B) (v:V) (k:V→Option β):Option β:=match v with
 | .own id off len sz=>match b[id]? with
  | some (.fz cs)=>k (.sl sz (zb sz len (cs.drop off)))
  | some (.live _ [])=>chk (len=0) (k (.sl sz []))
  | _=>none
 | v=>match v.plain with
  | some u=>k u
  | none=>none
def zlD (b:List B):List V→(List V→Option β)→Option β
 | [],k=>k []
 | v::vs,k=>zli b v fun u=>zlD b vs fun us=>k (u::us)
def zaX (nb:Nat):List Nat→St→(St→Option β)→Option β
 | [],σ,κ=>κ σ
 | d::fz,σ,κ=>match Nat.blt d 100000 with
  | true=>match σ.b[nb+d]? with
   | some (.live true cs)=>lc cs (zaX nb fz { σ with b:=σ.b.set (nb+d) (.live true []) } κ) (fun c cs=>zaX nb fz { σ with b:=σ.b.set (nb+d) (.fz (c::cs)) } κ)
   | _=>zaX nb fz σ κ
  | false=>match σ.b[nb+(d - 100000)]? with
   | some (.live false cs)=>lc cs (zaX nb fz { σ with b:=σ.b.set (nb+(d - 100000)) (.live false []) } κ) (fun c cs=>zcT (c::cs) fun vs=>zaX nb fz { σ with b:=σ.b.set (nb+(d - 100000)) (.fz vs) } κ)
   | some (.fz _)=>zaX nb fz σ κ
   | _=>none
def zg0 (cb:CBC) (nb:Nat) (σ:St) (dst:Option Nat) (pin:Bool) (f:Nat) (args:List V) (srcs:List (Src × Nat)) (xs:List Nat) (κ:St→Option β):Option β :=
 zen σ srcs σ.b fun b1 =>
 let σ1:St:={ σ with b:=b1 }
 let ids:=yu σ1.b args
 match z5 σ1.b ids ids with
 | none=>none
 | some bor=>cb β f (args.map (xV (yk ids))) bor fun r bor' =>
  let ids':=ids++(xs.map (nb+·)).take (bor'.length - ids.length)
  chk ((bor'.take ids.length).map B.len=bor.map B.len)
   (match decide (bor'.length=ids'.length) && (args.all (fun a=>(xj a).all ids.contains) && (zie r && ((zbv r).all (fun k=>decide (k < ids'.length)) && (bor'.all (B.lend (List.range ids'.length)) && (zbl (bor'.take ids.length) bor && ((bor'.drop ids.length).all B.isRow && zb3 σ1.b nb xs)))))) with
   | true=>zjQ nb { σ1 with b:=xu (fun k=>ids'.getD k 0) ids' bor' σ1.b } dst pin (zc3 (fun k=>ids'.getD k 0) r) κ
   | false=>none)
def zA (sh:Nat→Sh) (cb:CBC) (nb:Nat) (σ:St) (dst:Option Nat) (pin:Bool) (k:K) (κ:St→Option β):Option β :=
 match k with
 | .pick c a b=>aB (c.get σ) fun t=>zlV t (a.get σ).dem (b.get σ).dem fun v=>κ (σ.put dst v)
 | .build zero parts=>zid σ parts zero fun cs=>κ (σ.put dst (.agg cs))
 | .buildSt zero parts=>zgJ sh σ parts zero fun cs=>κ (σ.put dst (.st cs))
 | .nilT neg x=>match (x.get σ).dem with
  | .sl _ es=>match x with
   | .tmp t=>ifb es.isEmpty (lt { σ with t:=σ.t.set t (zny (x.get σ)) } fun σ=>κ (σ.put dst .ub)) (κ (σ.put dst (.sc (.bool neg))))
   | .const _=>none
  | _=>none
 | .un op x=>match x.get σ with
  | .sc a=>match zlu op a with
   | some r=>ltV r fun r=>κ (σ.put dst (.sc r))
   | none=>none
  | _=>none
 | .conv k x=>zff (x.get σ) fun n=>lt (k.wrap n) fun n=>κ (σ.put dst (.sc (.int k n)))
 | .mm isMax x y=>match x.get σ,y.get σ with
  | .sc (.int k a),.sc (.int _ b)=>lt (if isMax then (if b > a then b else a) else (if b < a then b else a)) fun n=>κ (σ.put dst (.sc (.int k n)))
  | _,_=>none
 | .copy sz d s=>match d.get σ with
  | .own id off len sz1=>zcA σ.b (s.get σ) fun u=>match u with
   | .sl sz2 es=>match σ.b[id]? with
    | some (.live true cs)=>chk (sz1=sz∧sz2=sz) (lt (yj cs off (es.take (min es.length len)).flatten) fun cs'=>κ ((σ.setB id (.live true cs')).put dst (.sc (.int .i64 ((min es.length len:Nat):Int)))))
    | _=>none
   | _=>none
  | _=>none
 | .box p x=>match x.get σ with
  | .st cs=>match p with
   | true=>none
   | false=>zbV (σ.newB nb dst (.live false cs) (fun id=>.ptr id 0)) κ
  | v=>match v.plain with
   | some v=>match p with
    | true=>zbV (σ.newB nb dst (.live true v.cells) (fun id=>.ptr id 0)) κ
    | false=>zg3 (sh (dst.getD 0)) v.cells fun cs=>zbV (σ.newB nb dst (.live false cs) (fun id=>.ptr id 0)) κ
   | none=>none
 | .buildSlice sz n zero parts=>zid σ parts (List.replicate n zero).flatten fun cs=>match decide (n=0∧pin=true) with
  | true=>κ (σ.put dst (.fr sz []))
  | false=>zbV (σ.putG nb dst pin sz (zb sz n cs)) κ
 | .bin op x y=>match x.get σ,y.get σ with
  | .sc a,.sc b=>zm0 op a b fun r=>ltV r fun r=>κ (σ.put dst (.sc r))
  | _,_=>none
 | .eqAgg neg n x y=>match x.get σ,y.get σ with
  | .agg a,.agg b=>eqC n a b fun r=>κ (σ.put dst (.sc (.bool (if neg then !r else r))))
  | _,_=>none
 | .toStr x=>zcA σ.b (x.get σ) fun v=>match v with
  | .sl 1 es=>znj es fun s=>κ (σ.put dst (.sc (.string s)))
  | _=>none
 | .see x=>match x.get σ with
  | .own id off len sz=>match σ.b[id]? with
   | some (.fz cs)=>κ (σ.put dst (.sl sz (zb sz len (cs.drop off))))
   | some (.live true [])=>chk (len=0) (κ (σ.put dst (.sl sz [])))
   | _=>none
  | _=>none
 | .cmpB x y=>zcA σ.b (x.get σ) fun u=>zcA σ.b (y.get σ) fun v=>match u,v with
  | .sl 1 es,.sl 1 fs=>zol es fs fun n=>lt n fun n=>κ (σ.put dst (.sc (.int .i64 n)))
  | _,_=>none
 | .makeSlice sz bytes zero l c=>zff (l.get σ) fun l=>zff (c.get σ) fun c =>
  match pin with
  | true=>chk (0≤l∧l≤c∧c.toNat * bytes≤zi∧c≤zi) (zbV (σ.newB nb dst (.live true (List.replicate c.toNat zero).flatten) (fun id=>.own id 0 l.toNat sz)) κ)
  | false=>chk (0≤l∧l≤c∧c.toNat * bytes≤zi∧c≤zi) (zbV (σ.putG nb dst false sz (List.replicate l.toNat zero)) κ)
 | .sliceA n sz x lo hi mx=>zeo σ n lo hi mx fun l h m =>
  match x.get σ with
  | .ptr id off=>match σ.b[id]? with
   | some (.live _ cs)=>chk (off+n * sz≤cs.length) (znF l h m id off sz fun v=>κ (σ.put dst v))
   | some (.fz cs)=>chk (off+n * sz≤cs.length) (ifb (decide (m=l)) (κ (σ.put dst (.gs sz []))) (κ (σ.put dst (.sl sz (zb sz (h - l) (cs.drop (off+l * sz)))))))
   | _=>none
  | .fp q cs=>chk (n * sz≤q) (κ (σ.put dst (.sl sz (zb sz (h - l) (cs.drop (l * sz))))))
  | _=>none
 | .sliceS sz x lo hi mx=>match (x.get σ).dem with
  | .sl sz' es=>zeo σ es.length lo hi mx fun l h m =>
   chk (sz=sz') (match mx with
    | none=>κ (σ.put dst (.sl sz ((es.drop l).take (h - l))))
    | some _=>ifb (decide (m=l)) (κ (σ.put dst (.fr sz []))) (κ (σ.put dst (.sl sz ((es.drop l).take (h - l))))))
  | .own id off len sz'=>zeo σ len lo hi mx fun l h m=>chk (sz=sz') (match mx with
    | none=>κ (σ.put dst (.own id (off+l * sz) (h - l) sz))
    | some _=>ifb (decide (m=l)) (κ (σ.put dst (.fr sz []))) (κ (σ.put dst .junk)))
  | .cut id off _ cap sz'=>match hi with
   | some _=>match mx with
    | none=>zeo σ cap lo hi none fun l h _=>chk (sz=sz') (κ (σ.put dst (.own id (off+l * sz) (h - l) sz)))
    | some _=>none
   | none=>none
  | _=>none
 | .sliceC sz x hi=>match x.get σ with
  | .own id off len sz'=>match hi with
   | some _=>zeo σ len none hi none fun _ h _=>chk (sz=sz') (κ (σ.put dst (.cut id off h len sz)))
   | none=>none
  | _=>none
 | .field agg o n x=>match x.get σ with
  | .agg cs=>match agg with
   | true=>κ (σ.put dst (.agg ((cs.drop o).take n)))
   | false=>zip (sh (dst.getD 0)) cs o fun v=>κ (σ.put dst v)
  | .st cs=>match agg with
   | true=>none
   | false=>match cs[o]? with
    | some v=>κ (σ.put dst v)
    | none=>none
  | _=>none
 | .indexAddrA len sz x i=>zff (i.get σ) fun j=>chk (0≤j∧j < len) (match x.get σ with
   | .ptr id off=>κ (σ.put dst (.ptr id (off+j.toNat * sz)))
   | .fp n cs=>chk (len * sz≤n) (κ (σ.put dst (.fp (n - j.toNat * sz) (cs.drop (j.toNat * sz)))))
   | _=>none)
 | .indexAddrS sz x i=>zff (i.get σ) fun j=>match (x.get σ).dem with
   | .sl sz' es=>chk (sz=sz') (idx es j fun c=>κ (σ.put dst (.fp sz c)))
   | .own id off len sz'=>chk (sz=sz') (chk (0≤j∧j < len) (κ (σ.put dst (.ptr id (off+j.toNat * sz)))))
   | _=>none
 | .arrP n sz x=>match (x.get σ).dem with
   | .sl sz' es=>chk (sz=sz') (chk (0 < n) (chk (n≤es.length) (κ (σ.put dst (.fp (n * sz) (es.take n).flatten)))))
   | .own id off len sz'=>chk (sz=sz') (chk (0 < n) (chk (n≤len) (κ (σ.put dst (.ptr id off)))))
   | _=>none
 | .indexA agg len sz x i=>zff (i.get σ) fun j=>chk (0≤j∧j < len) (match x.get σ with
   | .agg cs=>match agg with
    | true=>κ (σ.put dst (.agg ((cs.drop (j.toNat * sz)).take sz)))
    | false=>zip (sh (dst.getD 0)) cs (j.toNat * sz) fun v=>κ (σ.put dst v)
   | _=>none)
 | .load agg n a take=>match a.get σ with
  | .ptr id off=>match σ.b[id]? with
   | some (.live p cs)=>match agg with
    | true=>chk (off+n≤cs.length) (match p with
     | true=>κ (σ.put dst (.agg ((cs.drop off).take n)))
     | false=>match take with
      | true=>zlH ((cs.drop off).take n) fun vs=>κ (σ.put dst (.st vs))
      | false=>zcT ((cs.drop off).take n) fun vs=>κ (σ.put dst (.agg vs)))
    | false=>match take with
     | true=>match p with
      | true=>none
      | false=>zam cs off fun v=>znr (sh (dst.getD 0)) v fun v=>κ ((σ.setB id (.live p (cs.set off v.dem))).put dst v.tk)
     | false=>zmQ (sh (dst.getD 0)) cs off fun v=>κ (σ.put dst v)
   | some (.fz cs)=>match agg with
    | true=>chk (off+n≤cs.length) (κ (σ.put dst (.agg ((cs.drop off).take n))))
    | false=>zip (sh (dst.getD 0)) cs off fun v=>κ (σ.put dst v)
   | _=>none
  | .fp m cs=>match agg with
   | true=>chk (n≤m) (κ (σ.put dst (.agg (cs.take n))))
   | false=>zip (sh (dst.getD 0)) cs 0 fun v=>κ (σ.put dst v)
  | _=>none
 | .store n a x=>match dst with
  | some _=>none
  | none=>match a.get σ with
   | .ptr id off=>match σ.b[id]? with
    | some (.live true cs)=>match (x.get σ).plain with
     | some v=>chk (v.cells.length=n∧off+n≤cs.length) (lt (yj cs off v.cells) fun cs'=>κ (σ.setB id (.live true cs')))
     | none=>none
    | some (.live false cs)=>match x.get σ with
     | .agg us=>zg3 (sh ((x.slot).getD 0)) us fun us=>chk (us.length=n∧off+n≤cs.length) (κ (σ.setB id (.live false (yj cs off us))))
     | .st us=>chk (us.length=n∧off+n≤cs.length) (κ (σ.setB id (.live false (yj cs off us))))
     | .tup _=>none
     | .bx _ _=>none
     | .junk=>none
     | v=>chk (n=1∧off < cs.length) (κ ((σ.demote x).setB id (.live false (cs.set off v))))
    | _=>none
   | _=>none
 | .append sz bytes s x=>match s.get σ with
  | .gs sz1 es=>zcA σ.b (x.get σ) fun u=>match u with
   | .sl sz2 es2=>chk (sz1=sz∧sz2=sz) (chk ((es.length+es2.length) * bytes≤zi∧es.length+es2.length≤zi) (match pin with
    | true=>match s,es with
     | .const _,[]=>zbV (σ.putG nb dst true sz es2) κ
     | _,_=>none
    | false=>lt (es++es2) fun es'=>κ ((σ.demote s).put dst (.gs sz es'))))
   | _=>none
  | .fr sz1 []=>zcA σ.b (x.get σ) fun u=>match u with
   | .sl sz2 es2=>chk (sz1=sz∧sz2=sz) (chk ((0+es2.length) * bytes≤zi∧0+es2.length≤zi) (zbV ((σ.demote s).putG nb dst pin sz es2) κ))
   | _=>none
  | .own id off len sz1=>zcA σ.b (x.get σ) fun u=>match u with
   | .sl sz2 es2=>match σ.b[id]? with
    | some (.live true cs)=>chk (sz1=sz∧sz2=sz∧off=0) (chk ((len+es2.length) * bytes≤zi∧len+es2.length≤zi∧(len+es2.length≠0∨cs.length=0)) (lt (cs.take (len * sz)++es2.flatten) fun cs' =>
     zbV ((σ.setB id (.dead cs.length)).newB nb dst (.live true cs') (fun id'=>.own id' 0 (len+es2.length) sz)) κ))
    | _=>none
   | _=>none
  | .cut id off len cap sz1=>zcA σ.b (x.get σ) fun u=>match u with
   | .sl sz2 es2=>match σ.b[id]? with
    | some (.live true cs)=>match pin with
     | false=>chk (sz1=sz∧sz2=sz∧off=0) (chk (len+es2.length≤cap) (lt (yj cs (len * sz) es2.flatten) fun cs'=>κ ((σ.setB id (.live true cs')).put dst (.cut id 0 (len+es2.length) cap sz))))
     | true=>none
    | _=>none
   | _=>none
  | _=>none
 | .appendF sz bytes s x=>match pin with
  | true=>none
  | false=>match s.get σ with
   | .gs sz1 []=>zcA σ.b (x.get σ) fun u=>match u with
    | .sl sz2 es2=>chk (sz1=sz∧sz2=sz) (chk ((0+es2.length) * bytes≤zi∧0+es2.length≤zi∧0+es2.length≠0) (κ ((σ.demote s).put dst (.fr sz es2))))
    | _=>none
   | .fr sz1 es=>zcA σ.b (x.get σ) fun u=>match u with
    | .sl sz2 es2=>chk (sz1=sz∧sz2=sz) (chk ((es.length+es2.length) * bytes≤zi∧es.length+es2.length≤zi∧es.length+es2.length≠0) (lt (es++es2) fun es'=>κ ((σ.demote s).put dst (.fr sz es'))))
    | _=>none
   | _=>none
 | .pinC p sz a=>match a.get σ with
  | .ptr id off=>match σ.b[id]? with
   | some (.live false cs)=>zam cs off fun v=>match v with
    | .fr sz1 es=>match dst with
     | some d=>chk (sz1=sz) (lt es.flatten fun cs'=>zbV ((σ.setB id (.live false (cs.set off (.own (nb+d) 0 es.length sz)))).newB nb dst (.live p cs') (fun id'=>.own id' 0 es.length sz)) κ)
     | none=>none
    | _=>none
   | _=>none
  | _=>none
 | .storeF n a x xs=>match dst with
  | some _=>none
  | none=>match a.get σ with
   | .ptr id off=>match σ.b[id]? with
    | some (.live false cs)=>match x.get σ with
     | .st us=>chk (us.length=n∧off+n≤cs.length) (κ (σ.setB id (.live false (yj cs off (frz xs us)))))
     | _=>none
    | _=>none
   | _=>none
 | .loadS n a=>match a.get σ with
  | .ptr id off=>match σ.b[id]? with
   | some (.live false cs)=>chk (off+n≤cs.length) (zlD σ.b ((cs.drop off).take n) fun vs=>κ (σ.put dst (.agg vs)))
   | _=>none
  | _=>none
 | .pinS p sz x=>match x.get σ with
  | .fr sz1 es=>match x,dst with
   | .tmp t,some d=>chk (sz1=sz∧t≠d) (lt es.flatten fun cs'=>zbV ((σ.put (some t) (.own (nb+d) 0 es.length sz)).newB nb dst (.live p cs') (fun id'=>.own id' 0 es.length sz)) κ)
   | _,_=>none
  | _=>none
 | .unpin x=>match pin with
  | true=>none
  | false=>match x.get σ with
   | .own id off len sz=>match σ.b[id]? with
    | some (.live true cs)=>chk (off=0∧len * sz≤cs.length∧cs.length≠0) (κ ((σ.setB id (.dead cs.length)).put dst (.gs sz (zb sz len cs))))
    | _=>none
   | .gs sz es=>κ ((σ.demote x).put dst (.gs sz es))
   | _=>none
 | .clear sz zero x=>match x.get σ with
  | .own id off len sz1=>match σ.b[id]? with
   | some (.live true cs)=>chk (sz1=sz) (lt (yj cs off (List.replicate len zero).flatten) fun cs'=>κ ((σ.setB id (.live true cs')).put dst (.tup [])))
   | _=>none
  | _=>none
 | .extract x i=>match x.get σ with
  | .tup vs=>match vs[i]?,x with
   | some v,.tmp t=>match vs.all zkw && decide (dst≠some t) with
    | true=>match v.isHeld with
     | true=>zjQ nb { σ with t:=σ.t.set t (.tup (vs.set i .junk)) } dst pin v κ
     | false=>match pin with
      | true=>none
      | false=>κ (σ.put dst v.dem)
    | false=>none
   | _,_=>none
  | _=>none
 | .appendZ sz bytes zero s x=>match s.get σ with
  | .gs sz1 es=>zff (x.get σ) fun n=>chk (sz1=sz) (chk (0≤n∧(es.length+n.toNat) * bytes≤zi∧es.length+n.toNat≤zi) (match pin with
   | true=>none
   | false=>lt (es++List.replicate n.toNat zero) fun es'=>κ ((σ.demote s).put dst (.gs sz es'))))
  | _=>none
 | .mlook kd ok zero x y=>match x.get σ with
  | .mp id=>match σ.b[id]? with
   | some (.mp es)=>mAt kd (y.get σ) es fun r=>asc (sh (dst.getD 0)) (r.getD zero) fun v=>match ok with
    | true=>κ (σ.put dst (.tup [v,.sc (.bool r.isSome)]))
    | false=>κ (σ.put dst v)
   | _=>none
  | _=>none
 | .mput kd x y z=>match dst with
  | some _=>none
  | none=>match x.get σ with
   | .mp id=>match σ.b[id]? with
    | some (.mp es)=>match (z.get σ).plain with
     | some v=>zow kd (y.get σ) v es fun es'=>κ (σ.setB id (.mp es'))
     | none=>none
    | _=>none
   | _=>none
 | .call f args xs=>match args.mapM (xE σ) with
  | some vs=>zg0 cb nb σ dst pin f vs args xs κ
  | none=>none
 | .callv f args xs=>match f.get σ with
  | .fn g caps=>match args.mapM (xE σ) with
   | some vs=>zg0 cb nb σ dst pin g (vs++caps) args xs κ
   | none=>none
  | _=>none
 | k=>zbV (za (fun _ _ _=>none) nb σ dst pin k) κ
def zg7 (sh:Nat→Sh) (cb:CBC) (nb:Nat) (σ:St) (o:COp) (κ:St→St→Option β):Option β :=
 match o.guard with
 | none=>zA sh cb nb σ o.dst o.pin o.k (κ σ)
 | some (j,want)=>match σ.t[j]? with
  | some (.sc (.bool b))=>match want with
   | true=>ifb b (lt { σ with t:=σ.t.set j (.sc (.bool true)) } fun σ=>zA sh cb nb σ o.dst o.pin o.k (κ σ)) (lt { σ with t:=σ.t.set j (.sc (.bool false)) } fun σ=>κ σ (σ.put o.dst (.tup [])))
   | false=>ifb b (lt { σ with t:=σ.t.set j (.sc (.bool true)) } fun σ=>κ σ (σ.put o.dst (.tup []))) (lt { σ with t:=σ.t.set j (.sc (.bool false)) } fun σ=>zA sh cb nb σ o.dst o.pin o.k (κ σ))
  | some (.tup [])=>κ σ (σ.put o.dst (.tup []))
  | _=>none
def zhP (sh:Nat→Sh) (cb:CBC) (nb:Nat):List COp→St→(St→Option β)→Option β
 | [],σ,κ=>κ σ
 | o::rest,σ,κ=>zg7 sh cb nb σ o fun _ σ'=>zhP sh cb nb rest σ' κ
def zkm (sh:Nat→Sh) (cb:CBC) (nb:Nat):List (COp × Fl)→St→(St→Option β)→Option β
 | [],σ,κ=>κ σ
 | (o,q)::rest,σ,κ=>zg7 sh cb nb σ o fun σr σ'=>match z7 nb σr o q σ' with
  | true=>zkm sh cb nb rest σ' κ
  | false=>none
abbrev KT (β:Type):=Ex→St→Option β
def zao (rb:St→KT β→Option β) (K:KT β):KT β:=(fun (_:Nat→Nat)=>fun ex σ=>match ex with
 | .normal=>rb σ K
 | .exit j=>K (.exit j) σ
 | .ret=>K .ret σ) zlG
def yO (id:Nat) (K:KT β):KT β:=(fun (_:Nat→Nat)=>fun ex σ=>match ex with
 | .normal=>K .normal σ
 | .exit j=>match Nat.beq j id with
  | true=>K .normal σ
  | false=>K (.exit j) σ
 | .ret=>K .ret σ) zlG
def zeS (norm:St→St) (X:St→Option β) (K:KT β):KT β:=(fun (_:Nat→Nat)=>fun ex σ=>match ex with
 | .normal=>X (norm σ)
 | .exit j=>K (.exit j) σ
 | .ret=>K .ret σ) zlG
def yS (body:St→KT β→Option β) (norm:St→St):Nat→St→KT β→Option β
 | 0,_,_=>none
 | n+1,σ,K=>body σ (zeS norm (fun σ=>yS body norm n σ K) K)
def onR (o:Option (Ex × St)) (K:KT β):Option β:=(fun (_:Nat→Nat)=>match o with
 | some (ex,σ)=>K ex σ
 | none=>none) zlG
def xn (sh:Nat→Sh) (cb:CBC) (nb:Nat) (L:Nat):CC→St→KT β→Option β
 | .skip,σ,K=>K .normal σ
 | .reg ops,σ,K=>zhP sh cb nb ops σ (K .normal)
 | .dreg fz ops,σ,K=>zaX nb fz σ fun σ=>zkm sh cb nb ops σ (K .normal)
 | .seq a b,σ,K=>xn sh cb nb L a σ (zao (xn sh cb nb L b) K)
 | .fork p c a b,σ,K=>xn sh cb nb L p σ (zao (fun σ K=>match c.get σ with
  | .ub=>match zjO (run (fun _ _ _=>none) nb L a σ) (run (fun _ _ _=>none) nb L b σ) with
   | true=>onR (run (fun _ _ _=>none) nb L b σ) K
   | false=>none
  | v=>aB v fun t=>ifb t (xn sh cb nb L a σ (zao (xn sh cb nb L b) K)) (xn sh cb nb L b σ K)) K)
 | .cond c a b,σ,K=>match c.get σ with
  | .ub=>match zh8 (run (fun _ _ _=>none) nb L a σ) (run (fun _ _ _=>none) nb L b σ) with
   | true=>onR (run (fun _ _ _=>none) nb L b σ) K
   | false=>none
  | v=>aB v fun t=>ifb t (xn sh cb nb L a σ K) (xn sh cb nb L b σ K)
 | .block id a,σ,K=>xn sh cb nb L a σ (yO id K)
 | .loop kt kb a,σ,K=>yS (xn sh cb nb L a) (zaL nb kt kb) L (zaL nb kt kb σ) K
 | .mask kt kb,σ,K=>K .normal (zaL nb kt kb σ)
 | .exit id,σ,K=>K (.exit id) σ
 | .ret,σ,K=>K .ret σ
def zer (nb:Nat) (σ:St) (r:RV) (k:V→Option β):Option β:=match r with
 | .cellS _ _ _=>none
 | .tmp t=>match σ.t.getD t .junk with
  | .own id off len sz=>match decide (nb≤id) with
   | true=>match σ.b[id]? with
    | some (.live true cs)=>match decide (off=0∧0 < sz) with
     | true=>chk (len≠0∨cs.length=0) (k (.fr sz (zb sz len cs)))
     | false=>none
    | _=>none
   | false=>k (.own id off len sz)
  | .ptr id off=>match σ.b[id]? with
   | some (.live p cs)=>match decide (off=0∧nb≤id) with
    | true=>chk (cs.length≠0) (match p with
     | true=>k (.bx p cs)
     | false=>zcT cs fun cs=>k (.bx false cs))
    | false=>none
   | _=>none
  | _=>match yx nb σ (.tmp t) with
   | some v=>k v
   | none=>none
 | .tmpP t=>match σ.t.getD t .junk with
  | .own id off len sz=>match decide (nb≤id∧off=0∧0 < sz) with
   | true=>match σ.b[id]? with
    | some (.live true cs)=>k (.gs sz (zb sz len cs))
    | _=>none
   | false=>none
  | _=>match yx nb σ (.tmpP t) with
   | some v=>k v
   | none=>none
 | .cell t agg n=>match σ.t.getD t .junk with
  | .ptr id off=>match σ.b[id]? with
   | some (.live p cs)=>match agg with
    | true=>chk (off=0∧cs.length=n∧n≠0) (match p with
     | true=>k (.agg cs)
     | false=>zcT cs fun cs=>k (.agg cs))
    | false=>match decide (n=1∧off=0) with
     | true=>zam cs 0 fun v=>match v.plain with
      | some v=>k v
      | none=>none
     | false=>none
   | _=>none
  | _=>none
def zhG (nb:Nat) (σ:St):List RV→(List V→Option β)→Option β
 | [],k=>k []
 | r::rs,k=>zer nb σ r fun v=>zhG nb σ rs fun vs=>k (v::vs)
def zfL (nb:Nat) (σ:St) (rs:List RV) (k:V→Option β):Option β :=
 match zcp rs && zan (zbn nb σ rs) with
 | true=>match rs with
  | [r]=>zer nb σ r k
  | rs=>zhG nb σ rs fun vs=>k (.tup vs)
 | false=>none
def zgV (b:List B) (nb:Nat) (ids:List Nat):List Nat→(Bor→Option β)→Option β
 | [],k=>k []
 | id::rest,k=>match b[id]? with
  | some (.live p cs)=>match p with
   | true=>zgV b nb ids rest fun l=>k (.live true cs::l)
   | false=>match decide (id < nb) with
    | true=>chk (cs.all (xK ids)=true) (zgV b nb ids rest fun l=>k (.live false (cs.map (xV (yk ids)))::l))
    | false=>none
  | some (.mp es)=>match decide (id < nb) with
   | true=>zgV b nb ids rest fun l=>k (.mp es::l)
   | false=>none
  | some (.dead n)=>match decide (id < nb) with
   | true=>zgV b nb ids rest fun l=>k (.dead n::l)
   | false=>none
  | _=>none
def zaW (nb:Nat) (rs:List RV) (k:V→Bor→Option β):KT β:=fun ex σ=>match ex with
 | .exit _=>none
 | _=>match zbx σ.t.length rs σ with
  | some (σ,rs)=>zfL nb σ rs fun r=>zgV σ.b nb (z9 nb r) (z9 nb r) fun b=>match zan (z9 nb r) with
   | true=>k (zc3 (yk (z9 nb r)) r) b
   | false=>none
  | none=>none
def ziM:CC→Bool
 | .fork _ _ _ _=>true
 | .seq a b=>ziM a || ziM b
 | _=>false
def zjN (sh:Nat→Sh) (cb:CBC) (L:Nat) (c:CF) (args:List V) (bor:Bor) (k:V→Bor→Option β):Option β :=
 xn sh cb bor.length L c.body (enter c.ntmps args bor) (zaW bor.length c.res k)
def xH (sh:Nat→Sh) (cb:CBC) (L:Nat) (c:CF) (args:List V) (bor:Bor) (k:V→Bor→Option β):Option β :=
 match ziM c.body,args with
 | true,.sl sz es::rest=>lc es (zjN sh cb L c (.sl sz []::rest) bor k) (fun x xs=>zjN sh cb L c (.sl sz (x::xs)::rest) bor k)
 | _,args=>zjN sh cb L c args bor k
end
def zmL (x:Nat):Nat→Nat→List Bool
 | 0,_=>[]
 | n+1,i=>x.testBit i::zmL x n (i+1)
def bl (x n:Nat):List Bool:=zmL x n 0
def zcI:List (Nat × Sh)→Nat→Sh
 | [],_=>.any
 | (m,s)::r,n=>match Nat.beq m n with
  | true=>s
  | false=>zcI r n
def znn:V→Nat
 | .sc (.int _ _)=>1
 | .sc (.bool _)=>2
 | .sc _=>3
 | .agg _=>4
 | .tup _=>5
 | .sl _ _=>6
 | .gs _ _=>7
 | .own _ _ _ _=>8
 | .ptr _ _=>9
 | .fp _ _=>10
 | .fn f _=>100+f
 | .mp _=>12
 | .st _=>13
 | _=>11
def zoF:V→List Nat
 | .st cs=>13::cs.map znn
 | v=>[znn v]
def zgK:Bor→List Nat
 | []=>[]
 | .live true _::r=>20::zgK r
 | .live false cs::r=>21::(cs.map znn++zgK r)
 | .mp _::r=>22::zgK r
 | _::r=>23::zgK r
def zmp:List Nat→List Nat→Bool
 | [],[]=>true
 | a::l,b::m=>Nat.beq a b && zmp l m
 | _,_=>false
def zo8 (g:Nat) (tags:List Nat) (d:∀ (β:Type),List V→Bor→(V→Bor→Option β)→Option β) (c:CBC):CBC:=fun β f args bor k=>match Nat.beq f g && zmp tags (args.flatMap zoF++zgK bor) with
 | true=>d β args bor k
 | false=>c β f args bor k
def noC:CBC:=fun _ _ _ _ _=>none
def zbZ (g:Nat) (d:∀ (β:Type),List V→Bor→(V→Bor→Option β)→Option β) (c:CBC):CBC:=fun β f args bor k=>match Nat.beq f g with
 | true=>d β args bor k
 | false=>c β f args bor k
abbrev tq (n:Nat):Src:=.tmp n
abbrev oo (d:Nat) (k:K):COp:=⟨some d,false,none,k⟩
abbrev oz (k:K):COp:=⟨none,false,none,k⟩
abbrev KK (β:Type):=V→Bor→Option β
def rp:Nat→V→List V→List V
 | 0,_,l=>l
 | n+1,v,l=>v::rp n v l
def jn:Nat→List V→List V
 | 0,l=>l
 | n+1,l=>.junk::jn n l
def gn:Nat→List B→List B
 | 0,l=>l
 | n+1,l=>.gone::gn n l
end
section
set_option linter.unusedVariables false
set_option linter.unusedSimpArgs false
section
variable {β:Type} {r:β}
theorem zg {p:Prop} [Decidable p] {k:Option β} (h:chk p k=some r):p∧k=some r:=by
 rw [zbN] at h; split at h
 ·exact ⟨‹_›,h⟩
 ·cases h
theorem zbr {t:Bool} {a b:Option β} (h:ifb t a b=some r):(t=true∧a=some r)∨(t=false∧b=some r):=by
 cases t
 ·exact .inr ⟨rfl,h⟩
 ·exact .inl ⟨rfl,h⟩
theorem xJ {kd:IntKind} {v:V} {k:Int→Option β} (h:aI kd v k=some r):∃ n,v=.sc (.int kd n)∧k n=some r:=by
 unfold aI at h; simp only [zbN] at h; split at h
 ·split at h
  ·rename_i e; subst e; exact ⟨_,rfl,h⟩
  ·cases h
 ·cases h
theorem zbQ {v:V} {k:Int→Option β} (h:zff v k=some r):∃ kd n,v=.sc (.int kd n)∧k n=some r:=by
 unfold zff at h; split at h
 ·exact ⟨_,_,rfl,h⟩
 ·cases h
theorem zgA {v:V} {k:Bool→Option β} (h:aB v k=some r):∃ b,v=.sc (.bool b)∧k b=some r:=by
 unfold aB at h; split at h
 ·exact ⟨_,rfl,h⟩
 ·cases h
theorem zmj {v:V} {k:ByteArray→Option β} (h:aS v k=some r):∃ s,v=.sc (.string s)∧k s=some r:=by
 unfold aS at h; split at h
 ·exact ⟨_,rfl,h⟩
 ·cases h
theorem zct {sz:Nat} {v:V} {k:List (List V)→Option β} (h:aL sz v k=some r):∃ es,v=.sl sz es∧k es=some r:=by
 unfold aL at h; simp only [zbN] at h; split at h
 ·split at h
  ·rename_i e; subst e; exact ⟨_,rfl,h⟩
  ·cases h
 ·cases h
theorem zk0 {sz:Nat} {v:V} {k:List (List V)→Option β} (h:aLd sz v k=some r):∃ es,v.dem=.sl sz es∧k es=some r:=by
 unfold aLd at h; simp only [zbN] at h; split at h
 ·split at h
  ·rename_i e; subst e; exact ⟨_,rfl,h⟩
  ·cases h
 ·split at h
  ·rename_i e; subst e; exact ⟨_,rfl,h⟩
  ·cases h
 ·cases h
theorem zoj {v:V} {k:List V→Option β} (h:aG v k=some r):∃ cs,v=.agg cs∧k cs=some r:=by
 unfold aG at h; split at h
 ·exact ⟨_,rfl,h⟩
 ·cases h
theorem zkV {id sz:Nat} {v:V} {k:Nat→Option β} (h:aO0 id sz v k=some r):∃ l,v=.own id 0 l sz∧k l=some r:=by
 unfold aO0 at h; simp only [zbN] at h
 split at h
 ·split at h
  ·rename_i hc; obtain ⟨rfl,rfl,rfl⟩:=hc; exact ⟨_,rfl,h⟩
  ·cases h
 ·cases h
theorem zb0 {cs:List V} {off:Nat} {k:V→Option β} (h:zam cs off k=some r):∃ v,cs[off]?=some v∧k v=some r:=by
 unfold zam at h; split at h
 ·exact ⟨_,‹_›,h⟩
 ·cases h
theorem zn5 {es:List (List V)} {j:Int} {k:List V→Option β} (h:idx es j k=some r):0≤j∧∃ c,es[j.toNat]?=some c∧k c=some r:=by
 unfold idx at h; simp only [zbN] at h; split at h
 ·split at h
  ·exact ⟨‹_›,_,‹_›,h⟩
  ·cases h
 ·cases h
theorem znT {n:Nat} {a b:List V} {k:Bool→Option β} (h:eqC n a b k=some r):(a.length=n∧b.length=n)∧∃ t,zbp a b=some t∧k t=some r:=by
 unfold eqC at h; simp only [zbN] at h; split at h
 ·split at h
  ·exact ⟨‹_›,_,‹_›,h⟩
  ·cases h
 ·cases h
theorem zmR {es:List (List V)} {k:ByteArray→Option β} (h:znj es k=some r):∃ l,zaS es=some l∧k ⟨l.toArray⟩=some r:=by
 unfold znj at h; split at h
 ·exact ⟨_,‹_›,h⟩
 ·cases h
theorem zfl {cs:List V} {k:List V→Option β} (h:zcT cs k=some r):∃ vs,cs.mapM V.plain=some vs∧k vs=some r:=by
 unfold zcT at h; split at h
 ·exact ⟨_,‹_›,h⟩
 ·cases h
theorem zmf {cs:List V} {k:List V→Option β} (h:zlH cs k=some r):∃ vs,cs.mapM V.refd=some vs∧k vs=some r:=by
 unfold zlH at h
 split at h
 ·exact ⟨_,‹_›,h⟩
 ·cases h
theorem zU {o:Option St} {κ:St→Option β} (h:zbV o κ=some r):∃ σ,o=some σ∧κ σ=some r:=by
 unfold zbV at h; split at h
 ·exact ⟨_,rfl,h⟩
 ·cases h
theorem zaj {b:List B} {v:V} {k:V→Option β} (h:zcA b v k=some r):∃ u,yA b v=some u∧k u=some r:=by
 unfold zcA at h; split at h
 ·exact ⟨_,‹_›,h⟩
 ·cases h
theorem zkS {sz:Nat} {v:V} {k:List (List V)→Option β} (h:aGw sz v k=some r):∃ es,v=.gs sz es∧k es=some r:=by
 unfold aGw at h
 split at h
 ·obtain ⟨e,h2⟩:=zg h; subst e; exact ⟨_,rfl,h2⟩
 ·cases h
theorem znt {s:Sh} {v:V} {k:V→Option β} (h:znr s v k=some r):k v=some r:=by
 unfold znr at h
 split at h
 ·obtain ⟨es,e,h'⟩:=zkS h; subst e; exact h'
 ·exact h
theorem zi5 {s:Sh} {v:V} {k:V→Option β} (h:asc s v k=some r):k v=some r:=by
 cases s with
 | any=>exact h
 | int kd=>obtain ⟨n,e,h'⟩:=xJ h; subst e; exact h'
 | bool=>obtain ⟨n,e,h'⟩:=zgA h; subst e; exact h'
 | str=>obtain ⟨n,e,h'⟩:=zmj h; subst e; exact h'
 | sl sz=>obtain ⟨n,e,h'⟩:=zct h; subst e; exact h'
 | gs sz=>obtain ⟨n,e,h'⟩:=zkS h; subst e; exact h'
 | row l=>cases h
theorem zmU {s:Sh} {v:V} {k:V→Option β} (h:zou s v k=some r):k v.dem=some r:=by
 cases s with
 | any=>exact h
 | int kd=>obtain ⟨n,e,h'⟩:=xJ h; subst e; exact h'
 | bool=>obtain ⟨n,e,h'⟩:=zgA h; subst e; exact h'
 | str=>obtain ⟨n,e,h'⟩:=zmj h; subst e; exact h'
 | sl sz=>obtain ⟨n,e,h⟩:=zk0 h; rw [e]; exact h
 | gs sz=>obtain ⟨n,e,h⟩:=zk0 h; rw [e]; exact h
 | row l=>cases h
theorem ziw:∀ {ss:List Sh} {i:Nat} {cs:List V} {k:List V→Option β},zkc ss i cs k=some r→i+ss.length=cs.length→k (cs.drop i)=some r
 | [],i,cs,k,h,hl=>by
  rw [List.drop_of_length_le (by simp at hl; omega)]
  exact h
 | s::ss,i,cs,k,h,hl=>by
  obtain ⟨v,e,h⟩:=zb0 h
  have h:=ziw (zi5 h) (by simp at hl; omega)
  obtain ⟨hi,rfl⟩:=List.getElem?_eq_some_iff.1 e
  rw [List.drop_eq_getElem_cons hi]
  exact h
theorem zfb {s:Sh} {cs:List V} {k:List V→Option β} (h:zg3 s cs k=some r):k cs=some r:=by
 cases s with
 | row ss =>
  obtain ⟨hl,h⟩:=zg h
  have:=ziw h (by omega)
  simpa using this
 | _=>exact h
theorem ze3 {s:Sh} {cs:List V} {off:Nat} {k:V→Option β} (h:zip s cs off k=some r):∃ v,cs[off]?=some v∧k v=some r:=by
 obtain ⟨v,e,h⟩:=zb0 h; exact ⟨v,e,zi5 h⟩
theorem zln {s:Sh} {cs:List V} {off:Nat} {k:V→Option β} (h:zmQ s cs off k=some r):∃ v,cs[off]?=some v∧k v.dem=some r:=by
 obtain ⟨v,e,h⟩:=zb0 h; exact ⟨v,e,zmU h⟩
theorem zkT {v:Value} {k:Value→Option β} (h:ltV v k=some r):k v=some r:=by
 cases v <;> exact h
theorem zlZ {t:Bool} {a b:V} {k:V→Option β} (h:zlV t a b k=some r):k (if t then a else b)=some r:=by
 unfold zlV at h; simp only [zbN] at h
 split at h
 ·cases t <;> exact h
 ·split at h
  ·rename_i e; subst e; cases t <;> exact h
  ·cases h
 ·rcases zbr h with ⟨rfl,h⟩ | ⟨rfl,h⟩ <;> exact h
theorem zgt {σ:St}:∀ {ps:List (Nat × Nat × Src)} {cs:List V} {k:List V→Option β},zid σ ps cs k=some r→∃ cs',zO σ ps cs=some cs'∧k cs'=some r
 | [],cs,k,h=>⟨cs,rfl,h⟩
 | (off,n,x)::ps,cs,k,h=>by
  unfold zid at h
  split at h
  ·rename_i v hv
   obtain ⟨hc,h⟩:=zg h
   obtain ⟨cs',e,h⟩:=zgt h
   refine ⟨cs',?_,h⟩
   simp only [zO,hv,Option.bind_eq_bind,Option.bind_some,hc,and_self,if_true]
   exact e
  ·cases h
theorem zfT {sh:Nat→Sh} {σ:St}:∀ {ps:List (Nat × Nat × Src)} {cs:List V} {k:List V→Option β},zgJ sh σ ps cs k=some r→∃ cs',z8 σ ps cs=some cs'∧k cs'=some r
 | [],cs,k,h=>⟨cs,rfl,h⟩
 | (off,n,x)::ps,cs,k,h=>by
  unfold zgJ at h
  split at h
  ·rename_i us hx
   have h:=zfb h
   obtain ⟨hc,h⟩:=zg h
   obtain ⟨cs',e,h⟩:=zfT h
   refine ⟨cs',?_,h⟩
   simp only [z8,hx,V.refd,V.plain,V.cells,Option.bind_eq_bind,Option.bind_some,hc,and_self,if_true]
   exact e
  ·split at h
   ·rename_i v hv
    obtain ⟨hc,h⟩:=zg h
    obtain ⟨cs',e,h⟩:=zfT h
    refine ⟨cs',?_,h⟩
    simp only [z8,hv,Option.bind_eq_bind,Option.bind_some,hc,and_self,if_true]
    exact e
   ·cases h
theorem zmX {op:BinOp} {x y:Value} {k:Value→Option β} (h:zm0 op x y k=some r):∃ z,zek op x y=some z∧k z=some r:=by
 unfold zm0 at h
 split at h
 ·obtain ⟨hc,h⟩:=zg h
  exact ⟨_,by simp only [zek]; rw [if_neg (by omega)],h⟩
 ·obtain ⟨hc,h⟩:=zg h
  exact ⟨_,by simp only [zek]; rw [if_neg (by omega)],h⟩
 ·obtain ⟨e,h2⟩:=zg h
  clear h
  subst e
  obtain ⟨hc,h⟩:=zg h2
  exact ⟨_,by simp [zek,hc],h⟩
 ·obtain ⟨e,h2⟩:=zg h
  clear h
  subst e
  obtain ⟨hc,h⟩:=zg h2
  exact ⟨_,by simp [zek,hc],h⟩
 ·split at h
  ·exact ⟨_,‹_›,h⟩
  ·cases h
theorem zfP {σ:St} {x:Option Src} {dflt most:Nat} {k:Nat→Option β} (h:zgX σ x dflt most k=some r):∃ n,zc5 σ x dflt most=some n∧k n=some r:=by
 unfold zgX at h
 split at h
 ·exact ⟨_,rfl,h⟩
 ·obtain ⟨kd,n,e,h⟩:=zbQ h
  obtain ⟨hc,h⟩:=zg h
  exact ⟨_,by simp [zc5,e,V.int?,hc],h⟩
theorem zco {σ:St} {len:Nat} {lo hi mx:Option Src} {k:Nat→Nat→Nat→Option β} (h:zeo σ len lo hi mx k=some r):∃ l hh m,za2 σ len lo hi mx=some (l,hh,m)∧k l hh m=some r:=by
 obtain ⟨m,e1,h⟩:=zfP h
 obtain ⟨hh,e2,h⟩:=zfP h
 obtain ⟨l,e3,h⟩:=zfP h
 exact ⟨l,hh,m,by simp [za2,e1,e2,e3],h⟩
end
def zc0 (c:CBC) (cb:CB):Prop:=∀ (β:Type) (f:Nat) (args:List V) (bor:Bor) (k:V→Bor→Option β) (r:β),c β f args bor k=some r→∃ v b,cb f args bor=some (v,b)∧k v b=some r
section
variable {β:Type} {r:β} {c:CBC} {cb:CB} {sh:Nat→Sh} {nb L:Nat}
theorem zkq {σ:St} {dst:Option Nat} {pin:Bool} {v:V} {κ:St→Option β} (h:zjQ nb σ dst pin v κ=some r):∃ σ',σ.putR nb dst pin v=some σ'∧κ σ'=some r:=by
 cases v with
 | fr sz es =>
  cases pin with
  | true =>
   simp only [zjQ] at h
   obtain ⟨σ',e,h⟩:=zU h
   exact ⟨σ',by simp only [St.putR]; exact e,h⟩
  | false=>exact ⟨_,by simp only [St.putR,St.putG,Bool.false_eq_true,if_false],h⟩
 | _=>exact zU h
theorem zlk (b:List B) (id:Nat) (κ:List B→Option β):ziL b id κ=κ (yn b id):=by
 unfold ziL yn
 split
 ·rename_i cs h
  cases cs with
  | nil=>simp [ifb,h]
  | cons c cs=>simp [ifb,h]
 ·rename_i h
  split
  ·rename_i c cs h2; exact absurd h2 (h _)
  ·rfl
theorem zeg (σ:St):∀ (srcs:List (Src × Nat)) (b:List B) (κ:List B→Option β),zen σ srcs b κ=κ (ye σ srcs b)
 | [],b,κ=>rfl
 | s::rest,b,κ=>by
  unfold zen ye
  by_cases h:2≤s.2
  ·rw [if_pos h]; simp only [h,decide_true]; exact zeg σ rest b κ
  ·rw [if_neg h]; simp only [h,decide_false]
   cases yr (s.1.get σ) with
   | none=>exact zeg σ rest b κ
   | some id=>simp only [zlk]; exact zeg σ rest _ κ
theorem zjv {b:List B} {i:Nat} {x:B} (hb:b[i]?=some x):b.set i x=b:=by
 apply List.ext_getElem?
 intro k
 rw [List.getElem?_set]
 split
 ·rename_i hi; subst hi
  rw [hb,if_pos (List.getElem?_eq_some_iff.1 hb).1]
 ·rfl
theorem zbd (nb:Nat) {r:β}:∀ (fz:List Nat) (σ:St) (κ:St→Option β),zaX nb fz σ κ=some r→κ (zcz nb fz σ)=some r
 | [],σ,κ,h=>h
 | d::fz,σ,κ,h=>by
  unfold zaX at h
  unfold zcz
  cases hd:Nat.blt d 100000 with
  | true =>
   rw [hd] at h
   simp only at h ⊢
   split at h
   ·rename_i cs hb
    cases cs with
    | nil =>
     have e:yn σ.b (nb+d)=σ.b:=by unfold yn; rw [hb]
     have h:zaX nb fz { σ with b:=σ.b.set (nb+d) (.live true []) } κ=some r:=h
     rw [zjv hb] at h
     rw [e]; exact zbd nb fz _ κ h
    | cons c cs =>
     have e:yn σ.b (nb+d)=σ.b.set (nb+d) (.fz (c::cs)):=by unfold yn; rw [hb]
     have h:zaX nb fz { σ with b:=σ.b.set (nb+d) (.fz (c::cs)) } κ=some r:=h
     rw [e]; exact zbd nb fz _ κ h
   ·rename_i hb
    have e:yn σ.b (nb+d)=σ.b:=by
     unfold yn
     split
     ·rename_i c cs h2; exact absurd h2 (hb _)
     ·rfl
    rw [e]; exact zbd nb fz _ κ h
  | false =>
   rw [hd] at h
   simp only at h ⊢
   split at h
   ·rename_i cs hb
    cases cs with
    | nil =>
     have e:zN σ.b (nb+(d - 100000))=σ.b:=by unfold zN; rw [hb]
     have h:zaX nb fz { σ with b:=σ.b.set (nb+(d - 100000)) (.live false []) } κ=some r:=h
     rw [zjv hb] at h
     rw [e]; exact zbd nb fz _ κ h
    | cons c cs =>
     have h:zcT (c::cs) (fun vs=>zaX nb fz { σ with b:=σ.b.set (nb+(d - 100000)) (.fz vs) } κ)=some r:=h
     unfold zcT at h
     split at h
     ·rename_i vs hvs
      have e:zN σ.b (nb+(d - 100000))=σ.b.set (nb+(d - 100000)) (.fz vs):=by unfold zN; rw [hb]; simp only [hvs]
      rw [e]; exact zbd nb fz _ κ h
     ·cases h
   ·rename_i vs hb
    have e:zN σ.b (nb+(d - 100000))=σ.b:=by unfold zN; rw [hb]
    rw [e]; exact zbd nb fz _ κ h
   ·cases h
theorem zmE {b:List B} {v:V} {k:V→Option β} {r:β} (h:zli b v k=some r):∃ u,zdC b v=some u∧k u=some r:=by
 unfold zli at h
 split at h
 ·rename_i id off len sz
  split at h
  ·rename_i cs hb; exact ⟨_,by simp only [zdC,hb],h⟩
  ·rename_i hb
   obtain ⟨h0,h⟩:=zg h
   exact ⟨_,by simp only [zdC,hb]; rw [if_pos h0],h⟩
  ·cases h
 ·rename_i hn
  split at h
  ·rename_i u hu
   refine ⟨u,?_,h⟩
   cases v <;> first | exact hu | exact absurd rfl (hn _ _ _ _)
  ·cases h
theorem zjq {b:List B} {r:β}:∀ {vs:List V} {k:List V→Option β},zlD b vs k=some r→∃ us,vs.mapM (zdC b)=some us∧k us=some r
 | [],k,h=>⟨[],rfl,h⟩
 | v::vs,k,h=>by
  obtain ⟨u,e,h⟩:=zmE h
  obtain ⟨us,e2,h⟩:=zjq h
  exact ⟨u::us,by simp [List.mapM_cons,e,e2],h⟩
theorem zh6 (hc:zc0 c cb) {σ:St} {dst:Option Nat} {pin:Bool} {f:Nat} {args:List V} {srcs:List (Src × Nat)} {xs:List Nat} {κ:St→Option β} (h:zg0 c nb σ dst pin f args srcs xs κ=some r):∃ σ',xW cb nb σ dst pin f args srcs xs=some σ'∧κ σ'=some r:=by
 unfold zg0 at h
 rw [zeg] at h
 simp only at h
 split at h
 ·cases h
 ·rename_i bor hb
  obtain ⟨v,b,e,h⟩:=hc _ _ _ _ _ _ h
  obtain ⟨hl,h⟩:=zg h
  split at h
  ·rename_i ht
   obtain ⟨σ',e2,h⟩:=zkq h
   refine ⟨σ',?_,h⟩
   simp only [Bool.and_eq_true,decide_eq_true_eq] at ht
   obtain ⟨t1,t2,t3,t4,t5,t6,t7,t8⟩:=ht
   unfold xW
   simp only [hb,Option.bind_eq_bind,Option.bind_some,e]
   rw [if_pos ⟨hl,t1,t2,t3,t4,t5,t6,t7,t8⟩]
   exact e2
  ·cases h
theorem zn0 {σ:St} {dst:Option Nat} {pin:Bool} {k:K} {κ:St→Option β} (hk:za (fun _ _ _=>none) nb σ dst pin k=za cb nb σ dst pin k) (h:zbV (za (fun _ _ _=>none) nb σ dst pin k) κ=some r):∃ σ',za cb nb σ dst pin k=some σ'∧κ σ'=some r:=by
 obtain ⟨σ',e,h⟩:=zU h
 exact ⟨σ',by rw [← hk]; exact e,h⟩
theorem St.set_same {σ:St} {j:Nat} {v:V} (h:σ.t[j]?=some v):({ σ with t:=σ.t.set j v }:St)=σ:=by
 have:σ.t.set j v=σ.t:=by
  apply List.ext_getElem?
  intro i
  rw [List.getElem?_set]
  split
  ·rename_i e; subst e
   split
   ·exact h.symm
   ·rename_i hlt
    rw [List.getElem?_eq_none (by omega)]
  ·rfl
 rw [this]
theorem zhF (hc:zc0 c cb) {σ:St} {dst:Option Nat} {pin:Bool} {k:K} {κ:St→Option β} (h:zA sh c nb σ dst pin k κ=some r):∃ σ',za cb nb σ dst pin k=some σ'∧κ σ'=some r:=by
 cases k with
 | pick c a b =>
  obtain ⟨t,e,h⟩:=zgA h
  exact ⟨_,by simp only [za,xc,e,V.bool?]; rfl,by have:=zlZ h; cases t <;> exact this⟩
 | build zero parts =>
  obtain ⟨cs,e,h⟩:=zgt h
  exact ⟨_,by simp only [za,xc,e]; rfl,h⟩
 | buildSt zero parts =>
  obtain ⟨cs,e,h⟩:=zfT h
  exact ⟨_,by simp only [za,xc,e]; rfl,h⟩
 | box p x =>
  simp only [zA] at h
  split at h
  ·rename_i cs hx
   cases p with
   | true=>cases h
   | false =>
    obtain ⟨σ',e,h⟩:=zU h
    exact ⟨σ',by simp only [za,hx,Bool.false_eq_true,if_false]; exact e,h⟩
  ·rename_i hx
   split at h
   ·rename_i v hv
    have hk:∀ p,za cb nb σ dst pin (.box p x)=σ.newB nb dst (.live p v.cells) (fun id=>.ptr id 0):=by
     intro p
     cases hxx:x.get σ with
     | st cs=>exact absurd hxx (hx cs)
     | _=>rw [hxx] at hv; simp only [za,hxx,hv]
    cases p with
    | true =>
     obtain ⟨σ',e,h⟩:=zU h
     exact ⟨σ',by rw [hk]; exact e,h⟩
    | false =>
     obtain ⟨σ',e,h⟩:=zU (zfb h)
     exact ⟨σ',by rw [hk]; exact e,h⟩
   ·cases h
 | nilT neg x =>
  simp only [zA] at h
  split at h
  ·rename_i sz es hx
   split at h
   ·rename_i t
    rcases zbr h with ⟨hq,h⟩ | ⟨hq,h⟩
    ·have he:es=[]:=by simpa using hq
     subst he
     have hget:∃ v,σ.t[t]?=some v∧Src.get σ (.tmp t)=v∧zny v=v:=by
      simp only [Src.get,List.getD_eq_getElem?_getD] at hx ⊢
      cases ht:σ.t[t]? with
      | none=>rw [ht] at hx; simp [V.dem] at hx
      | some v =>
       rw [ht] at hx
       refine ⟨v,rfl,rfl,?_⟩
       have hx:v.dem=.sl sz []:=hx
       match v,hx with
       | .gs a es,hx =>
        have:es=[]:=by simp [V.dem] at hx; exact hx.2
        rw [this]; rfl
       | .sl a es,hx =>
        have:es=[]:=by simp [V.dem] at hx; exact hx.2
        rw [this]; rfl
       | .tup [],hx=>rfl
       | .tup (_::_),hx=>rfl
       | .sc _,hx=>rfl
       | .agg _,hx=>rfl
       | .own _ _ _ _,hx=>rfl
       | .ptr _ _,hx=>rfl
       | .fp _ _,hx=>rfl
       | .fn _ _,hx=>rfl
       | .bx _ _,hx=>rfl
       | .fr _ _,hx=>rfl
       | .ub,hx=>rfl
       | .junk,hx=>rfl
     obtain ⟨v,g1,g2,g3⟩:=hget
     simp only [lt] at h
     rw [g2,g3,St.set_same g1] at h
     exact ⟨_,by simp only [za,xc,hx]; rfl,h⟩
    ·exact ⟨_,by simp only [za,xc,hx,hq]; rfl,h⟩
   ·cases h
  ·cases h
 | un op x =>
  simp only [zA] at h
  split at h
  ·rename_i a ha
   split at h
   ·rename_i z hz
    exact ⟨_,by simp only [za,xc,ha,hz]; rfl,zkT h⟩
   ·cases h
  ·cases h
 | conv k x =>
  obtain ⟨kd,n,e,h⟩:=zbQ h
  exact ⟨_,by simp only [za,xc,e,V.int?]; rfl,h⟩
 | mm isMax x y =>
  simp only [zA] at h
  split at h
  ·rename_i k a k' b ha hb
   exact ⟨_,by simp only [za,xc,ha,hb]; rfl,h⟩
  ·cases h
 | copy sz d s =>
  simp only [zA] at h
  split at h
  ·rename_i id off len sz1 hd
   obtain ⟨u,e,h⟩:=zaj h
   split at h
   ·rename_i sz2 es
    split at h
    ·rename_i cs hb
     obtain ⟨hc,h⟩:=zg h
     exact ⟨_,by simp only [za,hd,e,hb]; rw [if_pos hc],h⟩
    ·cases h
   ·cases h
  ·cases h
 | buildSlice sz n zero parts =>
  obtain ⟨cs,e,h⟩:=zgt h
  split at h
  ·rename_i hc
   exact ⟨_,by simp only [za,e,Option.bind_eq_bind,Option.bind_some]; rw [if_pos (of_decide_eq_true hc)],h⟩
  ·rename_i hc
   obtain ⟨σ',e2,h⟩:=zU h
   exact ⟨σ',by simp only [za,e,Option.bind_eq_bind,Option.bind_some]; rw [if_neg (of_decide_eq_false hc)]; exact e2,h⟩
 | bin op x y =>
  simp only [zA] at h
  split at h
  ·rename_i a b ha hb
   obtain ⟨z,e,h⟩:=zmX h
   exact ⟨_,by simp only [za,xc,ha,hb,e]; rfl,zkT h⟩
  ·cases h
 | eqAgg neg n x y =>
  simp only [zA] at h
  split at h
  ·rename_i a b ha hb
   obtain ⟨hl,t,e,h⟩:=znT h
   exact ⟨_,by simp only [za,xc,ha,hb,hl,and_self,if_true,e]; rfl,h⟩
  ·cases h
 | toStr x =>
  obtain ⟨u,e,h⟩:=zaj h
  split at h
  ·obtain ⟨l,e2,h⟩:=zmR h
   exact ⟨_,by simp only [za,xc,e,e2]; rfl,h⟩
  ·cases h
 | see x =>
  simp only [zA] at h
  split at h
  ·rename_i id off len sz hx
   split at h
   ·rename_i cs hb; exact ⟨_,by simp only [za,xc,hx,hb]; rfl,h⟩
   ·rename_i hb
    obtain ⟨h0,h⟩:=zg h
    exact ⟨_,by simp only [za,xc,hx,hb,h0,if_true]; rfl,h⟩
   ·cases h
  ·cases h
 | cmpB x y =>
  obtain ⟨u,e,h⟩:=zaj h
  obtain ⟨v,e',h⟩:=zaj h
  split at h
  ·unfold zol at h
   split at h
   ·rename_i a ha
    split at h
    ·rename_i b hb
     exact ⟨_,by simp only [za,xc,e,e',ha,hb]; rfl,h⟩
    ·cases h
   ·cases h
  ·cases h
 | makeSlice sz bytes zero l c =>
  obtain ⟨k1,l',e1,h⟩:=zbQ h
  obtain ⟨k2,c',e2,h⟩:=zbQ h
  cases pin with
  | true =>
   obtain ⟨hc,h⟩:=zg h
   obtain ⟨σ',e3,h⟩:=zU h
   exact ⟨σ',by simp only [za,e1,e2,V.int?]; rw [if_pos hc,if_pos trivial]; exact e3,h⟩
  | false =>
   obtain ⟨hc,h⟩:=zg h
   obtain ⟨σ',e3,h⟩:=zU h
   exact ⟨σ',by simp only [za,e1,e2,V.int?]; rw [if_pos hc]; simpa using e3,h⟩
 | sliceA n sz x lo hi mx =>
  obtain ⟨l,hh,m,e,h⟩:=zco h
  split at h
  ·rename_i id off hx
   split at h
   ·rename_i p cs hb
    obtain ⟨hl,h⟩:=zg h
    refine ⟨_,by simp only [za,xc,e,Option.bind_eq_bind,Option.bind_some,hx,hb,hl,if_true,Option.map_some]; rfl,?_⟩
    rcases zbr h with ⟨q,h⟩ | ⟨q,h⟩
    ·rw [if_pos (by simpa using q)]; exact h
    ·rw [if_neg (by simpa using q)]; exact h
   ·rename_i cs hb
    obtain ⟨hl,h⟩:=zg h
    refine ⟨_,by simp only [za,xc,e,Option.bind_eq_bind,Option.bind_some,hx,hb,hl,if_true,Option.map_some]; rfl,?_⟩
    rcases zbr h with ⟨q,h⟩ | ⟨q,h⟩
    ·rw [if_pos (by simpa using q)]; exact h
    ·rw [if_neg (by simpa using q)]; exact h
   ·cases h
  ·rename_i q cs hx
   obtain ⟨hl,h⟩:=zg h
   exact ⟨_,by simp only [za,xc,e,Option.bind_eq_bind,Option.bind_some,hx,hl,if_true,Option.map_some],h⟩
  ·cases h
 | sliceS sz x lo hi mx =>
  simp only [zA] at h
  split at h
  ·rename_i sz' es hx
   obtain ⟨l,hh,m,e,h⟩:=zco h
   obtain ⟨hs,h⟩:=zg h
   cases mx with
   | none=>exact ⟨σ.put dst (.sl sz ((es.drop l).take (hh - l))),by simp [za,xc,e,hx,hs],h⟩
   | some s =>
    refine ⟨_,by simp only [za,xc,e,hx,hs,Option.bind_eq_bind,Option.bind_some,if_true,Option.map_some]; rfl,?_⟩
    rcases zbr h with ⟨q,h⟩ | ⟨q,h⟩
    ·rw [if_pos ⟨by simp,by simpa using q⟩]; rw [← hs]; exact h
    ·rw [if_neg (by simpa using q)]; rw [← hs]; exact h
  ·rename_i id off len sz' hx
   obtain ⟨l,hh,m,e,h⟩:=zco h
   obtain ⟨hs,h2⟩:=zg h
   subst hs
   cases mx with
   | none=>exact ⟨_,by simp only [za,xc,e,hx,Option.bind_eq_bind,Option.bind_some,if_true,Option.map_some,Option.isSome_none,Bool.false_eq_true,if_false],h2⟩
   | some s =>
    refine ⟨_,by simp only [za,xc,e,hx,Option.bind_eq_bind,Option.bind_some,if_true,Option.map_some,Option.isSome_some]; rfl,?_⟩
    rcases zbr h2 with ⟨q,h⟩ | ⟨q,h⟩
    ·rw [if_pos (by simpa using q)]; exact h
    ·rw [if_neg (by simpa using q)]; exact h
  ·rename_i id off len cap sz' hx
   cases hi with
   | none=>cases h
   | some s0 =>
    cases mx with
    | some _=>cases h
    | none =>
     obtain ⟨l,hh,m,e,h⟩:=zco h
     obtain ⟨hs,h2⟩:=zg h
     subst hs
     exact ⟨_,by simp only [za,xc,e,hx,Option.bind_eq_bind,Option.bind_some,if_true,Option.map_some,Option.isSome_some,Option.isNone_none,and_self],h2⟩
  ·cases h
 | sliceC sz x hi =>
  simp only [zA] at h
  split at h
  ·rename_i id off len sz' hx
   cases hi with
   | none=>cases h
   | some s0 =>
    obtain ⟨l,hh,m,e,h⟩:=zco h
    obtain ⟨hs,h2⟩:=zg h
    subst hs
    exact ⟨_,by simp only [za,xc,e,hx,Option.bind_eq_bind,Option.bind_some,if_true,Option.map_some,Option.isSome_some,and_self],h2⟩
  ·cases h
 | field agg o n x =>
  simp only [zA] at h
  split at h
  ·rename_i cs hx
   cases agg with
   | true=>exact ⟨_,by simp [za,xc,hx],h⟩
   | false =>
    obtain ⟨v,e,h⟩:=ze3 h
    exact ⟨_,by simp [za,xc,hx,e],h⟩
  ·rename_i cs hx
   cases agg with
   | true=>cases h
   | false =>
    simp only at h
    split at h
    ·rename_i v e
     exact ⟨_,by simp [za,xc,hx,e],h⟩
    ·cases h
  ·cases h
 | indexAddrA len sz x i =>
  obtain ⟨k1,j,e1,h⟩:=zbQ h
  obtain ⟨hj,h⟩:=zg h
  split at h
  ·rename_i id off hx
   exact ⟨_,by simp [za,xc,hx,e1,V.int?,hj],h⟩
  ·rename_i q cs hx
   obtain ⟨hl,h⟩:=zg h
   exact ⟨_,by simp [za,xc,hx,e1,V.int?,hj,hl],h⟩
  ·cases h
 | indexAddrS sz x i =>
  obtain ⟨k1,j,e1,h⟩:=zbQ h
  split at h
  ·rename_i sz' es hx
   obtain ⟨hs,h2⟩:=zg h
   obtain ⟨hj,cc,e,h3⟩:=zn5 h2
   subst hs
   exact ⟨_,by simp [za,xc,hx,e1,V.int?,hj,e],h3⟩
  ·rename_i id off len sz' hx
   obtain ⟨hs,h2⟩:=zg h
   obtain ⟨hj,h3⟩:=zg h2
   subst hs
   exact ⟨_,by simp [za,xc,hx,e1,V.int?,hj],h3⟩
  ·cases h
 | arrP n sz x =>
  simp only [zA] at h
  split at h
  ·rename_i sz' es hx
   obtain ⟨hs,h2⟩:=zg h
   obtain ⟨hp,h3⟩:=zg h2
   obtain ⟨hl,h4⟩:=zg h3
   subst hs
   exact ⟨_,by simp [za,xc,hx,hp,hl],h4⟩
  ·rename_i id off len sz' hx
   obtain ⟨hs,h2⟩:=zg h
   obtain ⟨hp,h3⟩:=zg h2
   obtain ⟨hl,h4⟩:=zg h3
   subst hs
   exact ⟨_,by simp [za,xc,hx,hp,hl],h4⟩
  ·cases h
 | indexA agg len sz x i =>
  obtain ⟨k1,j,e1,h⟩:=zbQ h
  obtain ⟨hj,h⟩:=zg h
  split at h
  ·rename_i cs hx
   cases agg with
   | true=>exact ⟨_,by simp [za,xc,hx,e1,V.int?,hj],h⟩
   | false =>
    obtain ⟨v,e,h⟩:=ze3 h
    exact ⟨_,by simp [za,xc,hx,e1,V.int?,hj,e],h⟩
  ·cases h
 | load agg n a take =>
  simp only [zA] at h
  split at h
  ·rename_i id off hx
   split at h
   ·rename_i p cs hb
    cases agg with
    | true =>
     obtain ⟨hl,h⟩:=zg h
     cases p with
     | true=>exact ⟨_,by simp [za,hx,hb,hl],h⟩
     | false =>
      cases take with
      | true =>
       obtain ⟨vs,e,h⟩:=zmf h
       exact ⟨_,by simp [za,hx,hb,hl,e],h⟩
      | false =>
       obtain ⟨vs,e,h⟩:=zfl h
       exact ⟨_,by simp [za,hx,hb,hl,e],h⟩
    | false =>
     cases take with
     | true =>
      cases p with
      | true=>cases h
      | false =>
       obtain ⟨v,e,h⟩:=zb0 h
       exact ⟨_,by simp [za,hx,hb,e],znt h⟩
     | false =>
      obtain ⟨v,e,h⟩:=zln h
      exact ⟨_,by simp [za,hx,hb,e],h⟩
   ·rename_i cs hb
    cases agg with
    | true =>
     obtain ⟨hl,h⟩:=zg h
     exact ⟨_,by simp [za,hx,hb,hl],h⟩
    | false =>
     obtain ⟨v,e,h⟩:=ze3 h
     exact ⟨_,by simp [za,hx,hb,e],h⟩
   ·cases h
  ·rename_i q cs hx
   cases agg with
   | true =>
    obtain ⟨hl,h⟩:=zg h
    exact ⟨_,by simp [za,hx,hl],h⟩
   | false =>
    obtain ⟨v,e,h⟩:=ze3 h
    exact ⟨_,by simp [za,hx,e],h⟩
  ·cases h
 | store n a x =>
  cases dst with
  | some d=>cases h
  | none =>
  simp only [zA] at h
  split at h
  ·rename_i id off hx
   split at h
   ·rename_i cs hb
    split at h
    ·rename_i v hv
     obtain ⟨hl,h⟩:=zg h
     exact ⟨_,by simp [za,hx,hb,hv,hl],h⟩
    ·cases h
   ·rename_i cs hb
    cases hxv:x.get σ <;> simp only [hxv] at h
    case agg us =>
     obtain ⟨hl,h⟩:=zg (zfb h)
     exact ⟨_,by simp [za,hx,hb,hxv,hl],h⟩
    case st us =>
     obtain ⟨hl,h⟩:=zg h
     exact ⟨_,by simp [za,hx,hb,hxv,hl],h⟩
    case tup=>cases h
    case bx=>cases h
    case junk=>cases h
    all_goals
     obtain ⟨hl,h⟩:=zg h
     exact ⟨_,by simp [za,hx,hb,hxv,hl],h⟩
   ·cases h
  ·cases h
 | append sz bytes s x =>
  simp only [zA] at h
  split at h
  ·rename_i sz1 es hs
   obtain ⟨u,e,h⟩:=zaj h
   split at h
   ·rename_i sz2 es2
    obtain ⟨⟨h1,h2⟩,h⟩:=zg h
    obtain ⟨h3,h⟩:=zg h
    cases pin with
    | true =>
     simp only at h
     split at h
     ·obtain ⟨σ',e3,h⟩:=zU h
      refine ⟨σ',?_,h⟩
      simp only [za,hs,e]
      rw [if_pos ⟨h1,.inl h2,h3⟩]
      exact e3
     ·cases h
    | false =>
     refine ⟨_,?_,h⟩
     simp only [za,hs,e]
     rw [if_pos ⟨h1,.inl h2,h3⟩]
     rfl
   ·cases h
  ·rename_i sz1 hs
   obtain ⟨u,e,h⟩:=zaj h
   split at h
   ·rename_i sz2 es2
    obtain ⟨⟨h1,h2⟩,h⟩:=zg h
    obtain ⟨h3,h⟩:=zg h
    obtain ⟨σ',e3,h⟩:=zU h
    refine ⟨σ',?_,h⟩
    simp only [za,hs,e]
    rw [if_pos ⟨h1,.inl h2,h3⟩]
    exact e3
   ·cases h
  ·rename_i id off len sz1 hs
   obtain ⟨u,e,h⟩:=zaj h
   split at h
   ·rename_i sz2 es2
    split at h
    ·rename_i cs hb
     obtain ⟨⟨h1,h2,h0⟩,h⟩:=zg h
     obtain ⟨h3,h⟩:=zg h
     obtain ⟨σ',e3,h⟩:=zU h
     refine ⟨σ',?_,h⟩
     simp only [za,hs,e,hb]
     rw [if_pos ⟨h1,.inl h2,h0,h3⟩]
     exact e3
    ·cases h
   ·cases h
  ·rename_i id off len cap sz1 hs
   obtain ⟨u,e,h⟩:=zaj h
   split at h
   ·rename_i sz2 es2
    split at h
    ·rename_i cs hb
     split at h
     ·obtain ⟨⟨h1,h2,h0⟩,h⟩:=zg h
      obtain ⟨h3,h⟩:=zg h
      refine ⟨_,?_,h⟩
      simp only [za,hs,e,hb]
      rw [if_pos ⟨h1,.inl h2,h0,h3,trivial⟩]
     ·cases h
    ·cases h
   ·cases h
  ·cases h
 | appendF sz bytes s x =>
  cases pin with
  | true=>simp only [zA] at h; cases h
  | false =>
   simp only [zA] at h
   split at h
   ·rename_i sz1 hs
    obtain ⟨u,e,h⟩:=zaj h
    split at h
    ·rename_i sz2 es2
     obtain ⟨⟨h1,h2⟩,h⟩:=zg h
     obtain ⟨h3,h⟩:=zg h
     refine ⟨_,?_,h⟩
     simp only [za,hs,ziX,e,Bool.false_eq_true,if_false]
     rw [if_pos ⟨h1,.inl h2,by simpa using h3.1,by simpa using h3.2.1,by simpa using h3.2.2⟩]
     rfl
    ·cases h
   ·rename_i sz1 es hs
    obtain ⟨u,e,h⟩:=zaj h
    split at h
    ·rename_i sz2 es2
     obtain ⟨⟨h1,h2⟩,h⟩:=zg h
     obtain ⟨h3,h⟩:=zg h
     refine ⟨_,?_,h⟩
     simp only [za,hs,ziX,e,Bool.false_eq_true,if_false]
     rw [if_pos ⟨h1,.inl h2,h3⟩]
    ·cases h
   ·cases h
 | pinC p sz a =>
  simp only [zA] at h
  split at h
  ·rename_i id off hx
   split at h
   ·rename_i cs hb
    obtain ⟨v,hv,h⟩:=zb0 h
    split at h
    ·rename_i sz1 es
     split at h
     ·rename_i d
      obtain ⟨h1,h⟩:=zg h
      obtain ⟨σ',e,h⟩:=zU h
      exact ⟨σ',by simp only [za,hx,hb,hv]; rw [if_pos h1]; exact e,h⟩
     ·cases h
    ·cases h
   ·cases h
  ·cases h
 | storeF n a x xs =>
  cases dst with
  | some d=>cases h
  | none =>
  simp only [zA] at h
  split at h
  ·rename_i id off hx
   split at h
   ·rename_i cs hb
    split at h
    ·rename_i us hy
     obtain ⟨h0,h⟩:=zg h
     exact ⟨_,by simp only [za,hx,hb,hy]; rw [if_neg (by simp),if_pos h0],h⟩
    ·cases h
   ·cases h
  ·cases h
 | loadS n a =>
  simp only [zA] at h
  split at h
  ·rename_i id off hx
   split at h
   ·rename_i cs hb
    obtain ⟨h0,h⟩:=zg h
    obtain ⟨us,e,h⟩:=zjq h
    exact ⟨_,by simp only [za,hx,hb]; rw [if_pos h0]; simp only [e]; rfl,h⟩
   ·cases h
  ·cases h
 | pinS p sz x =>
  simp only [zA] at h
  split at h
  ·rename_i sz1 es hx
   split at h
   ·rename_i t d
    obtain ⟨h1,h⟩:=zg h
    obtain ⟨σ',e,h⟩:=zU h
    exact ⟨σ',by simp only [za,hx]; rw [if_pos h1]; exact e,h⟩
   ·cases h
  ·cases h
 | unpin x =>
  cases pin with
  | true=>simp only [zA] at h; cases h
  | false =>
   simp only [zA] at h
   split at h
   ·rename_i id off len sz hx
    split at h
    ·rename_i cs hb
     obtain ⟨h1,h2⟩:=zg h
     exact ⟨_,by simp only [za,hx,hb]; rw [if_neg (by simp),if_pos h1],h2⟩
    ·cases h
   ·rename_i sz es hx
    exact ⟨_,by simp only [za,hx]; rw [if_neg (by simp)],h⟩
   ·cases h
 | clear sz zero x =>
  simp only [zA] at h
  split at h
  ·rename_i id off len sz1 hx
   split at h
   ·rename_i cs hb
    obtain ⟨h1,h⟩:=zg h
    exact ⟨_,by simp only [za,hx,hb,h1,if_true],h⟩
   ·cases h
  ·cases h
 | appendZ sz bytes zero s x =>
  simp only [zA] at h
  split at h
  ·rename_i sz1 es hs
   obtain ⟨kd,n,e,h⟩:=zbQ h
   obtain ⟨h1,h⟩:=zg h
   obtain ⟨h2,h⟩:=zg h
   cases pin with
   | true=>cases h
   | false =>
    refine ⟨_,?_,h⟩
    simp only [za,hs,e,V.int?]
    rw [if_pos ⟨h1,h2⟩]
    rfl
  ·cases h
 | extract x i =>
  simp only [zA] at h
  split at h
  ·rename_i vs hx
   split at h
   ·rename_i v t hvi
    split at h
    ·rename_i hall
     simp only [Bool.and_eq_true,decide_eq_true_eq] at hall
     split at h
     ·rename_i hh
      obtain ⟨σ',e,h⟩:=zkq h
      refine ⟨σ',?_,h⟩
      simp only [za,hx,hvi]
      rw [if_pos hall,if_pos hh]
      exact e
     ·rename_i hh
      split at h
      ·cases h
      ·refine ⟨_,?_,h⟩
       simp only [za,hx,hvi]
       rw [if_pos hall,if_neg (by simp [hh])]
       rfl
    ·cases h
   ·cases h
  ·cases h
 | call f args xs =>
  simp only [zA] at h
  split at h
  ·rename_i vs e
   obtain ⟨σ',e2,h⟩:=zh6 hc h
   exact ⟨σ',by simp only [za,e]; exact e2,h⟩
  ·cases h
 | callv f args xs =>
  simp only [zA] at h
  split at h
  ·rename_i g caps hg
   split at h
   ·rename_i vs e
    obtain ⟨σ',e2,h⟩:=zh6 hc h
    exact ⟨σ',by simp only [za,hg,e]; exact e2,h⟩
   ·cases h
  ·cases h
 | mlook kd ok zero x y =>
  simp only [zA] at h
  split at h
  ·rename_i id hx
   split at h
   ·rename_i es hes
    unfold mAt at h
    split at h
    ·rename_i hko
     split at h
     ·rename_i q hq
      have h:=zi5 h
      cases ok with
      | true=>exact ⟨_,by simp only [za,hx,hes,hko,if_true,hq,Option.bind_eq_bind,Option.bind_some,Option.pure_def],h⟩
      | false=>exact ⟨_,by simp only [za,hx,hes,hko,if_true,hq,Option.bind_eq_bind,Option.bind_some,Option.pure_def,Bool.false_eq_true,if_false],h⟩
     ·cases h
    ·cases h
   ·cases h
  ·cases h
 | mput kd x y z =>
  simp only [zA] at h
  split at h
  ·cases h
  ·split at h
   ·rename_i id hx
    split at h
    ·rename_i es hes
     split at h
     ·rename_i v hv
      unfold zow at h
      split at h
      ·rename_i hko
       split at h
       ·rename_i q hq
        refine ⟨_,?_,h⟩
        simp only [za,Option.isSome_none,Bool.false_eq_true,if_false,hx,hes,hko,if_true,hv,hq,Option.bind_eq_bind,Option.bind_some,Option.pure_def]
       ·cases h
      ·cases h
     ·cases h
    ·cases h
   ·cases h
 | _=>exact zn0 rfl h
theorem zir (hc:zc0 c cb) {σ:St} {o:COp} {κ:St→St→Option β} (h:zg7 sh c nb σ o κ=some r):∃ σ',xf cb nb σ o=some σ'∧κ σ σ'=some r:=by
 unfold zg7 at h
 split at h
 ·rename_i hg
  obtain ⟨σ',e,h⟩:=zhF hc h
  exact ⟨σ',by simp only [xf,hg,zD]; exact e,h⟩
 ·rename_i j want hg
  split at h
  ·rename_i b hj
   cases want with
   | true =>
    rcases zbr h with ⟨rfl,h⟩ | ⟨rfl,h⟩
    ·simp only [lt] at h
     rw [St.set_same hj] at h
     obtain ⟨σ',e,h⟩:=zhF hc h
     exact ⟨σ',by simp only [xf,hg,zD,hj]; exact e,h⟩
    ·simp only [lt] at h
     rw [St.set_same hj] at h
     exact ⟨_,by simp only [xf,hg,zD,hj]; rfl,h⟩
   | false =>
    rcases zbr h with ⟨rfl,h⟩ | ⟨rfl,h⟩
    ·simp only [lt] at h
     rw [St.set_same hj] at h
     exact ⟨_,by simp only [xf,hg,zD,hj]; rfl,h⟩
    ·simp only [lt] at h
     rw [St.set_same hj] at h
     obtain ⟨σ',e,h⟩:=zhF hc h
     exact ⟨σ',by simp only [xf,hg,zD,hj]; exact e,h⟩
  ·rename_i hj
   exact ⟨_,by simp only [xf,hg,zD,hj],h⟩
  ·cases h
theorem zhk (hc:zc0 c cb):∀ {ops:List COp} {σ:St} {κ:St→Option β},zhP sh c nb ops σ κ=some r→∃ σ',zaV cb nb ops σ=some σ'∧κ σ'=some r
 | [],σ,κ,h=>⟨σ,rfl,h⟩
 | o::ops,σ,κ,h=>by
  obtain ⟨σ1,e1,h⟩:=zir hc h
  obtain ⟨σ2,e2,h⟩:=zhk hc h
  exact ⟨σ2,by simp only [zaV,e1,Option.bind_some]; exact e2,h⟩
theorem zjt (hc:zc0 c cb):∀ {ops:List (COp × Fl)} {σ:St} {κ:St→Option β},zkm sh c nb ops σ κ=some r→∃ σ',zcB cb nb ops σ=some σ'∧κ σ'=some r
 | [],σ,κ,h=>⟨σ,rfl,h⟩
 | (o,q)::ops,σ,κ,h=>by
  obtain ⟨σ1,e1,h⟩:=zir hc h
  split at h
  ·rename_i hq
   obtain ⟨σ2,e2,h⟩:=zjt hc h
   exact ⟨σ2,by simp only [zcB,e1,hq,if_true]; exact e2,h⟩
  ·cases h
theorem zkt {body:St→KT β→Option β} {bodyN:St→Option (Ex × St)} {norm:St→St} (hb:∀ σ K,body σ K=some r→∃ ex σ',bodyN σ=some (ex,σ')∧K ex σ'=some r):∀ (n:Nat) (σ:St) (K:KT β),yS body norm n (norm σ) K=some r→∃ ex σ',zdd bodyN norm n σ=some (ex,σ')∧K ex σ'=some r
 | 0,σ,K,h=>by cases h
 | n+1,σ,K,h=>by
  obtain ⟨ex,σ1,e,h⟩:=hb _ _ h
  cases ex with
  | normal =>
   obtain ⟨ex,σ2,e2,h⟩:=zkt hb n σ1 K h
   exact ⟨ex,σ2,by simp only [zdd,e]; exact e2,h⟩
  | exit j=>exact ⟨_,_,by simp only [zdd,e],h⟩
  | ret=>exact ⟨_,_,by simp only [zdd,e],h⟩
theorem zm6 {σ σ':St} {dst:Option Nat} {pin:Bool} {k:K} (h:za (fun _ _ _=>none) nb σ dst pin k=some σ'):za cb nb σ dst pin k=some σ':=by
 cases k with
 | call f args xs =>
  simp only [za,xW,Option.bind_eq_bind,Option.bind_eq_some_iff,Prod.exists] at h
  obtain ⟨_,_,_,_,_,_,h,_⟩:=h
  cases h
 | callv f args xs =>
  simp only [za] at h
  split at h
  ·simp only [xW,Option.bind_eq_bind,Option.bind_eq_some_iff,Prod.exists] at h
   obtain ⟨_,_,_,_,_,_,h,_⟩:=h
   cases h
  ·cases h
 | _=>exact h
theorem zjp {σ σ':St} {o:COp} (h:xf (fun _ _ _=>none) nb σ o=some σ'):xf cb nb σ o=some σ':=by
 unfold xf at h ⊢
 split at h
 ·exact zm6 h
 ·exact h
 ·cases h
theorem ziq:∀ {ops:List COp} {σ σ':St},zaV (fun _ _ _=>none) nb ops σ=some σ'→zaV cb nb ops σ=some σ'
 | [],σ,σ',h=>h
 | o::ops,σ,σ',h=>by
  simp only [zaV,Option.bind_eq_some_iff] at h ⊢
  obtain ⟨σ1,h1,h2⟩:=h
  exact ⟨σ1,zjp h1,ziq h2⟩
theorem zj5:∀ {ops:List (COp × Fl)} {σ σ':St},zcB (fun _ _ _=>none) nb ops σ=some σ'→zcB cb nb ops σ=some σ'
 | [],σ,σ',h=>h
 | (o,q)::ops,σ,σ',h=>by
  simp only [zcB] at h ⊢
  split at h
  ·rename_i σ1 h1
   rw [zjp h1]
   split at h
   ·rename_i hq
    simp only [hq,if_true]
    exact zj5 h
   ·cases h
  ·cases h
theorem zix:∀ (cc:CC) (σ:St) (r:Ex × St),run (fun _ _ _=>none) nb L cc σ=some r→run cb nb L cc σ=some r:=by
 intro cc
 induction cc with
 | skip=>intro σ r h; exact h
 | reg ops =>
  intro σ r h
  simp only [run,Option.map_eq_some_iff] at h ⊢
  obtain ⟨σ1,h1,h2⟩:=h
  exact ⟨σ1,ziq h1,h2⟩
 | dreg fz ops =>
  intro σ r h
  simp only [run,Option.map_eq_some_iff] at h ⊢
  obtain ⟨σ1,h1,h2⟩:=h
  exact ⟨σ1,zj5 h1,h2⟩
 | seq a b iha ihb =>
  intro σ r h
  simp only [run] at h ⊢
  split at h
  ·rename_i σ1 h1
   rw [iha _ _ h1]
   exact ihb _ _ h
  ·rename_i hne
   obtain ⟨ex,σ1⟩:=r
   rw [iha _ _ h]
   cases ex with
   | normal=>exact absurd h (hne _)
   | exit j=>rfl
   | ret=>rfl
 | fork p s a b ihp iha ihb =>
  intro σ r h
  simp only [run] at h ⊢
  split at h
  ·rename_i σ1 h1
   rw [ihp _ _ h1]
   simp only
   split at h
   ·split at h
    ·rename_i hs
     obtain ⟨e,_⟩:=zhA hs
     rw [iha _ _ (e.trans h),ihb _ _ h]
     rw [e,h] at hs
     simp only [hs,if_true]
    ·cases h
   ·split at h
    ·split at h
     ·rename_i σ2 h2
      rw [iha _ _ h2]
      exact ihb _ _ h
     ·rename_i hne
      obtain ⟨ex,σ2⟩:=r
      rw [iha _ _ h]
      cases ex with
      | normal=>exact absurd h (hne _)
      | exit j=>rfl
      | ret=>rfl
    ·exact ihb _ _ h
    ·cases h
  ·rename_i hne
   obtain ⟨ex,σ1⟩:=r
   rw [ihp _ _ h]
   cases ex with
   | normal=>exact absurd h (hne _)
   | exit j=>rfl
   | ret=>rfl
 | cond s a b iha ihb =>
  intro σ r h
  simp only [run] at h ⊢
  split at h
  ·split at h
   ·rename_i hs
    have e:=zfI hs
    rw [iha _ _ (e.trans h),ihb _ _ h]
    rw [e,h] at hs
    simp only [hs,if_true]
   ·cases h
  ·rename_i hne
   split at h
   ·rename_i t ht
    cases t with
    | true=>simp only [if_true] at h ⊢; exact iha _ _ h
    | false=>simp only [Bool.false_eq_true,if_false] at h ⊢; exact ihb _ _ h
   ·cases h
 | block id a ih =>
  intro σ r h
  simp only [run] at h ⊢
  cases ha:run (fun _ _ _=>none) nb L a σ with
  | none=>rw [ha] at h; cases h
  | some q=>rw [ha] at h; rw [ih _ _ ha]; exact h
 | loop kt kb a ih =>
  intro σ r h
  simp only [run] at h ⊢
  have key:∀ (n:Nat) (σ:St),zdd (run (fun _ _ _=>none) nb L a) (zaL nb kt kb) n σ=some r→zdd (run cb nb L a) (zaL nb kt kb) n σ=some r:=by
   intro n
   induction n with
   | zero=>intro σ h; cases h
   | succ n ihn =>
    intro σ h
    simp only [zdd] at h ⊢
    cases ha:run (fun _ _ _=>none) nb L a (zaL nb kt kb σ) with
    | none=>rw [ha] at h; cases h
    | some q =>
     obtain ⟨ex,σ1⟩:=q
     rw [ha] at h
     rw [ih _ _ ha]
     cases ex with
     | normal=>exact ihn _ h
     | exit j=>exact h
     | ret=>exact h
  exact key L σ h
 | mask kt kb=>intro σ r h; exact h
 | exit id=>intro σ r h; exact h
 | ret=>intro σ r h; exact h
theorem znU (hc:zc0 c cb):∀ (cc:CC) (σ:St) (K:KT β),xn sh c nb L cc σ K=some r→∃ ex σ',run cb nb L cc σ=some (ex,σ')∧K ex σ'=some r:=by
 intro cc
 induction cc with
 | skip=>intro σ K h; exact ⟨_,_,rfl,h⟩
 | reg ops =>
  intro σ K h
  obtain ⟨σ',e,h⟩:=zhk hc h
  exact ⟨_,σ',by simp only [run,e]; rfl,h⟩
 | dreg fz ops =>
  intro σ K h
  obtain ⟨σ',e,h⟩:=zjt hc (zbd nb fz σ _ h)
  exact ⟨_,σ',by simp only [run,e]; rfl,h⟩
 | seq a b iha ihb =>
  intro σ K h
  obtain ⟨ex,σ1,e,h⟩:=iha _ _ h
  cases ex with
  | normal =>
   obtain ⟨ex,σ2,e2,h⟩:=ihb _ _ h
   exact ⟨ex,σ2,by simp only [run,e]; exact e2,h⟩
  | exit j=>exact ⟨_,_,by simp only [run,e],h⟩
  | ret=>exact ⟨_,_,by simp only [run,e],h⟩
 | fork p s a b ihp iha ihb =>
  intro σ K h
  obtain ⟨ex,σ1,e,h⟩:=ihp _ _ h
  cases ex with
  | exit j=>exact ⟨_,_,by simp only [run,e],h⟩
  | ret=>exact ⟨_,_,by simp only [run,e],h⟩
  | normal =>
   simp only [zao] at h
   split at h
   ·rename_i hub
    split at h
    ·rename_i hsame
     unfold onR at h
     split at h
     ·rename_i ex σ2 e1
      obtain ⟨e0,_⟩:=zhA hsame
      have ra:=zix (cb:=cb) _ _ _ (e0.trans e1)
      have rb:=zix (cb:=cb) _ _ _ e1
      rw [e0,e1] at hsame
      refine ⟨ex,σ2,?_,h⟩
      simp only [run,e,hub,ra,rb,hsame,if_true]
     ·cases h
    ·cases h
   ·rename_i hne
    obtain ⟨t,et,h⟩:=zgA h
    rcases zbr h with ⟨rfl,h⟩ | ⟨rfl,h⟩
    ·obtain ⟨ex,σ2,e1,h⟩:=iha _ _ h
     cases ex with
     | normal =>
      obtain ⟨ex,σ3,e2,h⟩:=ihb _ _ h
      exact ⟨ex,σ3,by simp only [run,e,et,V.bool?,e1]; exact e2,h⟩
     | exit j=>exact ⟨_,_,by simp only [run,e,et,V.bool?,e1],h⟩
     | ret=>exact ⟨_,_,by simp only [run,e,et,V.bool?,e1],h⟩
    ·obtain ⟨ex,σ2,e1,h⟩:=ihb _ _ h
     exact ⟨ex,σ2,by simp only [run,e,et,V.bool?]; exact e1,h⟩
 | cond s a b iha ihb =>
  intro σ K h
  simp only [xn] at h
  split at h
  ·rename_i hub
   split at h
   ·rename_i hsame
    unfold onR at h
    split at h
    ·rename_i ex σ1 e1
     have e0:=zfI hsame
     have ra:=zix (cb:=cb) _ _ _ (e0.trans e1)
     have rb:=zix (cb:=cb) _ _ _ e1
     rw [e0,e1] at hsame
     refine ⟨ex,σ1,?_,h⟩
     simp only [run,hub,ra,rb,hsame,if_true]
    ·cases h
   ·cases h
  ·rename_i hne
   obtain ⟨t,e,h⟩:=zgA h
   rcases zbr h with ⟨rfl,h⟩ | ⟨rfl,h⟩
   ·obtain ⟨ex,σ1,e1,h⟩:=iha _ _ h
    exact ⟨ex,σ1,by simp only [run,e,V.bool?,if_true]; exact e1,h⟩
   ·obtain ⟨ex,σ1,e1,h⟩:=ihb _ _ h
    exact ⟨ex,σ1,by simp only [run,e,V.bool?,Bool.false_eq_true,if_false]; exact e1,h⟩
 | block id a ih =>
  intro σ K h
  obtain ⟨ex,σ1,e,h⟩:=ih _ _ h
  cases ex with
  | normal=>exact ⟨_,_,by simp only [run,e],h⟩
  | exit j =>
   simp only [yO] at h
   split at h
   ·rename_i hj
    have hj:=Nat.eq_of_beq_eq_true hj
    exact ⟨_,_,by simp only [run,e,hj,if_true],h⟩
   ·rename_i hj
    have:j≠id:=Nat.ne_of_beq_eq_false hj
    exact ⟨_,_,by simp only [run,e,this,if_false],h⟩
  | ret=>exact ⟨_,_,by simp only [run,e],h⟩
 | loop kt kb a ih =>
  intro σ K h
  obtain ⟨ex,σ',e,h⟩:=zkt ih L σ K h
  exact ⟨ex,σ',by simp only [run]; exact e,h⟩
 | mask kt kb=>intro σ K h; exact ⟨_,_,rfl,h⟩
 | exit id=>intro σ K h; exact ⟨_,_,rfl,h⟩
 | ret=>intro σ K h; exact ⟨_,_,rfl,h⟩
theorem zh1 {σ:St} {rv:RV} {k:V→Option β} (h:zer nb σ rv k=some r):∃ v,yx nb σ rv=some v∧k v=some r:=by
 cases rv with
 | cellS t n p=>cases h
 | tmp t =>
  simp only [zer] at h
  split at h
  ·rename_i id off len sz ht
   split at h
   ·rename_i hge
    have hge:=of_decide_eq_true hge
    split at h
    ·rename_i cs hb
     split at h
     ·rename_i hd
      have hd:=of_decide_eq_true hd
      obtain ⟨hl,h⟩:=zg h
      exact ⟨_,by simp only [yx,ht]; rw [if_pos hge,if_pos hd]; simp only [hb]; rw [if_pos hl],h⟩
     ·cases h
    ·cases h
   ·rename_i hge
    have hge:=of_decide_eq_false hge
    exact ⟨_,by simp only [yx,ht]; rw [if_neg hge],h⟩
  ·rename_i id off ht
   split at h
   ·rename_i p cs hb
    split at h
    ·rename_i hd
     have hd:=of_decide_eq_true hd
     obtain ⟨hl,h⟩:=zg h
     cases p with
     | true=>exact ⟨_,by simp only [yx,ht]; rw [if_pos hd]; simp only [hb]; rw [if_pos hl]; rfl,h⟩
     | false =>
      obtain ⟨vs,e,h⟩:=zfl h
      exact ⟨_,by simp only [yx,ht]; rw [if_pos hd]; simp only [hb]; rw [if_pos hl]; simp only [Bool.false_eq_true,if_false,e,Option.map_some],h⟩
    ·cases h
   ·cases h
  ·split at h
   ·exact ⟨_,‹_›,h⟩
   ·cases h
 | tmpP t =>
  simp only [zer] at h
  split at h
  ·rename_i id off len sz ht
   split at h
   ·rename_i hge
    have hge:=of_decide_eq_true hge
    split at h
    ·rename_i cs hb
     exact ⟨_,by simp only [yx,ht]; rw [if_pos hge]; simp only [hb],h⟩
    ·cases h
   ·cases h
  ·split at h
   ·exact ⟨_,‹_›,h⟩
   ·cases h
 | cell t agg n =>
  simp only [zer] at h
  split at h
  ·rename_i id off ht
   split at h
   ·rename_i p cs hb
    cases agg with
    | true =>
     obtain ⟨hl,h⟩:=zg h
     cases p with
     | true=>exact ⟨_,by simp only [yx,ht,hb,if_true]; rw [if_pos hl],h⟩
     | false =>
      obtain ⟨vs,e,h⟩:=zfl h
      exact ⟨_,by simp only [yx,ht,hb,if_true]; rw [if_pos hl]; simp only [Bool.false_eq_true,if_false,e,Option.map_some],h⟩
    | false =>
     simp only at h
     split at h
     ·rename_i hd
      have hd:=of_decide_eq_true hd
      obtain ⟨v,e,h⟩:=zb0 h
      split at h
      ·rename_i v' hv
       exact ⟨_,by simp only [yx,ht,hb,Bool.false_eq_true,if_false,hd,and_self,if_true,e,Option.bind_some]; exact hv,h⟩
      ·cases h
     ·cases h
   ·cases h
  ·cases h
theorem zhj {σ:St}:∀ {rs:List RV} {k:List V→Option β},zhG nb σ rs k=some r→∃ vs,rs.mapM (yx nb σ)=some vs∧k vs=some r
 | [],k,h=>⟨[],rfl,h⟩
 | x::rs,k,h=>by
  obtain ⟨v,e,h⟩:=zh1 h
  obtain ⟨vs,e2,h⟩:=zhj h
  exact ⟨v::vs,by simp [List.mapM_cons,e,e2],h⟩
theorem zkM {σ:St} {rs:List RV} {k:V→Option β} (h:zfL nb σ rs k=some r):∃ v,results nb σ rs=some v∧k v=some r:=by
 unfold zfL at h
 split at h
 ·rename_i hd
  split at h
  ·obtain ⟨v,e,h⟩:=zh1 h
   exact ⟨v,by simp only [results,hd,if_true]; exact e,h⟩
  ·rename_i hne
   obtain ⟨vs,e,h⟩:=zhj h
   refine ⟨.tup vs,?_,h⟩
   simp only [results,hd,if_true,e,Option.map_some]
 ·cases h
theorem zfx {b:List B} {ids:List Nat}:∀ {l:List Nat} {k:Bor→Option β},zgV b nb ids l k=some r→∃ bor,zdI b nb ids l=some bor∧k bor=some r
 | [],k,h=>⟨[],rfl,h⟩
 | id::l,k,h=>by
  simp only [zgV] at h
  split at h
  ·rename_i p cs hb
   cases p with
   | true =>
    obtain ⟨bor,e,h⟩:=zfx (l:=l) h
    exact ⟨_,by simp only [zdI,hb,B.lend,B.isRow,Bool.true_or,Bool.or_true,Bool.and_self,if_true,e,Option.map_some,B.ren],h⟩
   | false =>
    simp only at h
    split at h
    ·rename_i hd
     obtain ⟨hl,h⟩:=zg h
     obtain ⟨bor,e,h⟩:=zfx (l:=l) h
     exact ⟨_,by simp only [zdI,hb,B.lend,Bool.false_or,hl,hd,Bool.true_or,Bool.and_self,if_true,e,Option.map_some,B.ren,Bool.false_eq_true,if_false],h⟩
    ·cases h
  ·rename_i es hb
   split at h
   ·rename_i hd
    obtain ⟨bor,e,h⟩:=zfx (l:=l) h
    exact ⟨_,by simp only [zdI,hb,B.lend,hd,Bool.true_or,Bool.and_self,if_true,e,Option.map_some,B.ren],h⟩
   ·cases h
  ·rename_i n hb
   split at h
   ·rename_i hd
    obtain ⟨bor,e,h⟩:=zfx (l:=l) h
    exact ⟨_,by simp only [zdI,hb,B.lend,hd,Bool.true_or,Bool.and_self,if_true,e,Option.map_some,B.ren],h⟩
   ·cases h
  ·cases h
theorem zk1 {σ:St} {rs:List RV} {k:V→Bor→Option β} (h:(match zbx σ.t.length rs σ with
  | some (σ,rs)=>zfL nb σ rs fun v=>zgV σ.b nb (z9 nb v) (z9 nb v) fun b=>match zan (z9 nb v) with
   | true=>k (zc3 (yk (z9 nb v)) v) b
   | false=>none
  | none=>none)=some r):∃ v b,zfC nb σ rs=some (v,b)∧k v b=some r:=by
 split at h
 rotate_left
 ·cases h
 rename_i σ1 rs1 hu
 obtain ⟨v,e1,h⟩:=zkM h
 obtain ⟨b,e2,h⟩:=zfx h
 split at h
 ·rename_i hd
  refine ⟨_,b,?_,h⟩
  simp only [zfC,hu,zg6,e1,e2,Option.bind_eq_bind,Option.bind_some,hd,if_true,Option.pure_def]
 ·cases h
theorem zn6 {T:Nat→Option CF} {pr:CB} {d:Nat} {f:Nat} (hc:zc0 c (evF T pr L d)) {cf:CF} (hT:T f=some cf) {args:List V} {bor:Bor} {k:V→Bor→Option β} (h:xH sh c L cf args bor k=some r):∃ v b,evF T pr L (d+1) f args bor=some (v,b)∧k v b=some r:=by
 have h:zjN sh c L cf args bor k=some r:=by
  unfold xH at h
  split at h
  ·rename_i sz es rest _
   cases es with
   | nil=>exact h
   | cons a l=>exact h
  ·exact h
 obtain ⟨ex,σ',e,h⟩:=znU hc _ _ _ h
 cases ex with
 | exit j=>cases h
 | normal =>
  obtain ⟨v,b,e1,h⟩:=zk1 h
  exact ⟨v,b,by simp only [evF,hT,e,e1],h⟩
 | ret =>
  obtain ⟨v,b,e1,h⟩:=zk1 h
  exact ⟨v,b,by simp only [evF,hT,e,e1],h⟩
def FOk (T:Nat→Option CF) (L g:Nat) (d:∀ (β:Type),List V→Bor→(V→Bor→Option β)→Option β) (D:Nat):Prop:=∀ n,D≤n→∀ (β:Type) (args:List V) (bor:Bor) (k:V→Bor→Option β) (r:β),d β args bor k=some r→∃ v b,evF T zfG L n g args bor=some (v,b)∧k v b=some r
theorem zaB {cb:CB}:zc0 noC cb:=by
 intro β f args bor k r h; cases h
theorem yX {c:CBC} {cb:CB} (hc:zc0 c cb) {g:Nat} {d:∀ (β:Type),List V→Bor→(V→Bor→Option β)→Option β} (hd:∀ (β:Type) (args:List V) (bor:Bor) (k:V→Bor→Option β) (r:β),d β args bor k=some r→∃ v b,cb g args bor=some (v,b)∧k v b=some r):zc0 (zbZ g d c) cb:=by
 intro β f args bor k r h
 unfold zbZ at h
 split at h
 ·rename_i hf
  rw [Nat.eq_of_beq_eq_true hf]
  exact hd _ _ _ _ _ h
 ·exact hc _ _ _ _ _ _ h
theorem zaE {T:Nat→Option CF} {L g:Nat} {cf:CF} (hT:T g=some cf) {d:∀ (β:Type),List V→Bor→(V→Bor→Option β)→Option β} {D:Nat}
  (h:∀ m,D≤m→∃ (sh:Nat→Sh) (c:CBC),zc0 c (evF T zfG L m)∧∀ (β:Type) (args:List V) (bor:Bor) (k:V→Bor→Option β) (r:β),d β args bor k=some r→xH sh c L cf args bor k=some r):FOk T L g d (D+1):=by
 intro n hn β args bor k r hr
 obtain ⟨m,rfl⟩:∃ m,n=m+1:=⟨n - 1,by omega⟩
 obtain ⟨sh,c,hc,hd⟩:=h m (by omega)
 exact zn6 hc hT (hd _ _ _ _ _ hr)
theorem znx {β:Type} (kd:IntKind) (n:Int) (k:Int→Option β):aI kd (.sc (.int kd n)) k=k n:=by show chk (kd=kd) (k n)=k n; rw [zbN,if_pos rfl]
theorem znI {T:Nat→Option CF} {L g sz bytes:Nat} (hT:T g=none) (hs:zg5 g=some (sz,bytes)) {d:∀ (β:Type),List V→Bor→(V→Bor→Option β)→Option β}
  (hd:∀ (β:Type) (args:List V) (bor:Bor) (k:V→Bor→Option β) (r:β),d β args bor k=some r→∃ n i m cs vs,args=[.own 0 0 n sz,.sc (.int .i64 i),.own 1 0 m sz]∧bor=[.live true cs,.live true vs]∧zjM sz bytes n m i cs vs∧k (.fr sz (zeF sz n m i.toNat cs vs)) [.dead cs.length,.live true vs]=some r):FOk T L g d 1:=by
 intro n hn β args bor k r hr
 obtain ⟨m,rfl⟩:∃ m,n=m+1:=⟨n - 1,by omega⟩
 obtain ⟨n,i,m,cs,vs,rfl,rfl,h0,hk⟩:=hd _ _ _ _ _ hr
 refine ⟨_,_,?_,hk⟩
 simp only [evF,hT,zfG,hs]
 rw [if_pos ⟨trivial,trivial,h0⟩]
end
end
section
set_option linter.unusedVariables false
set_option linter.unusedSimpArgs false
section
variable {β:Type}
theorem zb9 {α:Type} (a:α) (k:α→Option β):lt a k=k a:=Eq.trans rfl rfl
theorem xq {p:Prop} {inst:Decidable p} (h:p) (k:Option β):@chk β p inst k=k:=(zbN p k).trans (if_pos h)
theorem zlU {inst:Decidable True} (k:Option β):@chk β True inst k=k:=(zbN True k).trans (if_pos trivial)
theorem zhM (a b:Option β):ifb true a b=a:=rfl
theorem zdT (a b:Option β):ifb false a b=b:=rfl
theorem ziP {p:Prop} {inst:Decidable p} (a b:Option β):ifb (@decide p inst) a b=if p then a else b:=by
 by_cases h:p <;> simp [ifb,h]
theorem zal {p:Prop} {inst:Decidable p} (h:p) (a b:Option β):ifb (@decide p inst) a b=a:=by rw [ziP,if_pos h]
theorem yy {p:Prop} {inst:Decidable p} (h:¬ p) (a b:Option β):ifb (@decide p inst) a b=b:=by rw [ziP,if_neg h]
theorem xM {kd:IntKind} {cs:List V} {off:Nat} {n:Int} (h:cs[off]?=some (.sc (.int kd n))) (k:Int→Option β):cI kd cs off k=k n:=by
 simp [cI,zam,h,aI,zlU]
theorem zmV {es:List (List V)} {j:Int} {c:List V} (h0:0≤j) (h:es[j.toNat]?=some c) (k:List V→Option β):idx es j k=k c:=by
 simp [idx,h0,h,zlU]
theorem zaw {es:List (List V)} {j:Nat} {c:List V} (h:es[j]?=some c) (k:List V→Option β):idx es (j:Int) k=k c :=
 zmV (Int.natCast_nonneg j) (by simpa using h) k
end
theorem zbJ {n:Int} (h1:-9223372036854775808≤n) (h2:n≤9223372036854775807):IntKind.wrap .i64 n=n:=IntWalk.i64_in _ ⟨h1,h2⟩
def zpd (k:IntKind) (l:List Int):List (List V):=l.map fun n=>[.sc (.int k n)]
def row (k:IntKind) (l:List Int):List V:=l.map fun n=>.sc (.int k n)
end
section
set_option linter.unusedVariables false
set_option linter.unusedSimpArgs false
theorem zms {cs:List V} {off:Nat} {v:V} (h:off < cs.length):yj cs off [v]=cs.set off v:=by
 simp only [yj,List.length_singleton]
 rw [List.set_eq_take_append_cons_drop,if_pos h]
 simp
theorem zdJ {sz:Nat}:∀ {es:List (List V)},(∀ e ∈ es,e.length=sz)→zb sz es.length es.flatten=es
 | [],_=>rfl
 | e::es,h=>by
  have he:=h e (by simp)
  have:=zdJ (es:=es) (fun x hx=>h x (by simp [hx]))
  simp only [List.length_cons,zb,List.flatten_cons]
  rw [List.take_append_of_le_length (by omega),List.take_of_length_le (by omega),List.drop_append_of_le_length (by omega),List.drop_of_length_le (by omega),List.nil_append,this]
theorem zdG {sz:Nat} {es:List (List V)} (h:∀ e ∈ es,e.length=sz):es.flatten.length=es.length * sz:=xm h
theorem zhS {sz:Nat} (hs:0 < sz) {es:List (List V)} (h:∀ e ∈ es,e.length=sz) {i j:Nat} (hj:j < sz) {e:List V} (he:es[i]?=some e):es.flatten[i * sz+j]?=e[j]?:=by
 rw [zfK es h hs]
 have e1:(i * sz+j) / sz=i:=by rw [Nat.mul_comm,Nat.mul_add_div hs,Nat.div_eq_of_lt hj,Nat.add_zero]
 have e2:(i * sz+j) % sz=j:=by rw [Nat.mul_comm,Nat.mul_add_mod,Nat.mod_eq_of_lt hj]
 rw [e1,e2,he]; rfl
theorem zku {sz:Nat} (hs:0 < sz) {es:List (List V)} (h:∀ e ∈ es,e.length=sz) {i j:Nat} (hj:j < sz) {e:List V} (he:es[i]?=some e) (v:V):yj es.flatten (i * sz+j) [v]=(es.set i (e.set j v)).flatten:=by
 obtain ⟨hi,rfl⟩:=List.getElem?_eq_some_iff.1 he
 have hlt:i * sz+j < es.flatten.length:=by
  rw [zdG h]
  have:(i+1) * sz≤es.length * sz:=Nat.mul_le_mul_right _ hi
  rw [Nat.add_mul] at this; omega
 rw [zms hlt]
 have h':∀ x ∈ es.set i (es[i].set j v),x.length=sz:=by
  intro x hx
  rcases List.mem_or_eq_of_mem_set hx with hx | rfl
  ·exact h x hx
  ·rw [List.length_set]; exact h _ (List.getElem_mem hi)
 apply List.ext_getElem?
 intro q
 rw [List.getElem?_set,zfK _ h' hs,zfK _ h hs,List.getElem?_set]
 have hm:=Nat.mod_lt q hs
 have hd:=Nat.div_add_mod q sz
 rw [Nat.mul_comm] at hd
 by_cases hq:i * sz+j=q
 ·have e1:q / sz=i:=by rw [← hq,Nat.mul_comm,Nat.mul_add_div hs,Nat.div_eq_of_lt hj,Nat.add_zero]
  have e2:q % sz=j:=by rw [← hq,Nat.mul_comm,Nat.mul_add_mod,Nat.mod_eq_of_lt hj]
  rw [if_pos hq,if_pos hlt,if_pos e1.symm,if_pos hi,e2]
  simp [h _ (List.getElem_mem hi),hj]
 ·rw [if_neg hq]
  by_cases e1:i=q / sz
  ·have e2:j≠q % sz:=by rintro rfl; rw [e1] at hq; exact hq hd
   rw [if_pos e1,if_pos hi]
   simp only [Option.bind_some]
   rw [List.getElem?_set_ne e2,← e1,List.getElem?_eq_getElem hi]
   rfl
  ·rw [if_neg e1]
theorem zi0 {β:Type} (x y:Int) (a b:Option β):ifb (x != y) a b=if x=y then b else a:=by
 by_cases h:x=y
 ·subst h; simp [ifb]
 ·rw [bne_iff_ne.2 h,if_neg h]; rfl
theorem zcR {β:Type} (x y:Int) (a b:Option β):ifb (x == y) a b=if x=y then a else b:=by
 by_cases h:x=y
 ·subst h; simp [ifb]
 ·rw [beq_eq_false_iff_ne.2 h,if_neg h]; rfl
end
section
set_option linter.unusedVariables false
set_option linter.unusedSimpArgs false
def zo0 {α:Type} (p:α→Bool):List α→Nat→Int
 | [],_=>-1
 | x::l,i=>if p x=true then (i:Int) else zo0 p l (i+1)
theorem zbH {i:Nat} (h:i≤1000000000):IntKind.wrap .i64 ((i:Int)+1)=((i+1:Nat):Int):=by
 rw [zbJ (by omega) (by omega)]; omega
end
section
set_option linter.unusedVariables false
set_option linter.unusedSimpArgs false
open Go.Shelf Go.Lib
variable {ren:Rn} {we:World} {ωe:Nat→Ow} {U:Nat→Nat→Prop} {O:Nat→Prop} {σ:St} {a:Act} {w:World} {ω:Nat→Ow} {μ:Nat→Nat} {P:Program} {ρ:Ren}
end
section
set_option linter.unusedVariables false
set_option linter.unusedSimpArgs false
open Go.Lib
variable {ren:Rn} {we:World} {ωe:Nat→Ow} {U:Nat→Nat→Prop} {O:Nat→Prop} {σ:St} {a:Act} {w:World} {ω:Nat→Ow} {μ:Nat→Nat} {P:Program}
theorem zeW {P:Program} (w:World) {dT sT ty elem:TypeId} {sz:Nat} (hu:P.underlying dT=some (.slice elem)) (hs:(P.info? elem).map (·.size)=some sz) (g o dLen dCap:Nat) (a:Addr) (sLen sCap:Nat) (cur:Array Value) (t:TypeId) (cs:List Value)
  (hg:w.heap[g]?=some (.cells cur t (0,0))) (hn:cs.length=Nat.min sLen dLen * sz)
  (hsrc:∀ j v,cs[j]?=some v→w.cell? (a.add j)=some v) (hfit:o+cs.length≤cur.size) (h1:∀ v ∈ cs,v.oneCell'=true) :
  (Builtin.copy_ #[dT,sT] ty #[.slice (some ⟨g,o,none⟩) dLen dCap,.slice (some a) sLen sCap]).run P w =
   .ok (goInt (Nat.min sLen dLen)) (w.setRow g (cur.toList.take o++cs++cur.toList.drop (o+cs.length)).toArray):=by
 have hl:=run_loadCells_list (P:=P) w a cs hsrc
 have hst:=run_storeCells_at P g o t cs 0 cur w hg (by simpa using hfit) h1
 cases hq:P.info? elem with
 | none=>simp [hq] at hs
 | some i =>
  have hi:i.size=sz:=by simpa [hq] using hs
  simp [Builtin.copy_,run_underlying hu,Builtin.lenOf,Builtin.firstCells,sizeOf,typeInfo,hq,hi,← hn,hl,hst]
structure InsW (P:Program) (f:FuncId) (T I e:TypeId) (ov:FuncId) (sz bytes:Nat):Prop where
 ty:P.underlying T=some (.slice e)
 it:∃ k,P.underlying I=some (.int k)
 inf:∃ i z,P.info? e=some i∧i.zero=some z∧i.size=sz∧i.bytes=bytes∧z.cells.size=sz
 pos:0 < sz
 ovl:∀ (w:World) (vb b o2 m vc lb cb:Nat) (A1 A2:Array Value) (T1 T2:TypeId),vb≠b→w.heap[vb]?=some (.cells A1 T1 (0,0))→w.heap[b]?=some (.cells A2 T2 (0,0))→A2.size≠0 →
  (callFunc ov #[.slice (some ⟨vb,0,none⟩) m vc,.slice (some ⟨b,o2,none⟩) lb cb]).run P w=.ok (.value (.bool false)) w
 e:∀ (A:Option Addr) (n c vb m vc:Nat) (w w1:World) (r:Value),0 < m→(A=none→n=0∧c=0)→n≤c→n+m≤140737488355328 →
  (∀ ty,(Builtin.append_ #[T,T] ty #[.slice A n c,.slice (some ⟨vb,0,none⟩) m vc]).run P w=.ok r w1) →
  Calls P f #[.slice A n c,.int .i64 n,.slice (some ⟨vb,0,none⟩) m vc] w fun e w'=>e=.returned r∧w'=w1
 s:∀ (b n c i vb m vc:Nat) (w:World),i < n→0 < m→n+m≤c→n+m≤140737488355328→vb≠b→∀ (r1 r2:Value) (w1 w2:World),
  (∀ lb cb,(callFunc ov #[.slice (some ⟨vb,0,none⟩) m vc,.slice (some ⟨b,(i+m) * sz,none⟩) lb cb]).run P w=.ok (.value (.bool false)) w) →
  (∀ ty dc sc,(Builtin.copy_ #[T,T] ty #[.slice (some ⟨b,(i+m) * sz,none⟩) (n+m - (i+m)) dc,.slice (some ⟨b,i * sz,none⟩) (n+m - i) sc]).run P w.drew=.ok r1 w1) →
  (∀ ty dc,(Builtin.copy_ #[T,T] ty #[.slice (some ⟨b,i * sz,none⟩) (n+m - i) dc,.slice (some ⟨vb,0,none⟩) m vc]).run P w1=.ok r2 w2) →
  Calls P f #[.slice (some ⟨b,0,none⟩) n c,.int .i64 i,.slice (some ⟨vb,0,none⟩) m vc] w fun e w'=>e=.returned (.slice (some ⟨b,0,none⟩) (n+m) c)∧w'=w2
 g:∀ (b n c i vb m vc N G:Nat) (w:World),i < n→0 < m→n≤c→c < n+m→n+m≤140737488355328→n+m≤G→∀ (r1 r2:Value) (w1 w2 w3:World),
  (∀ ty,(Builtin.append_ #[T,I] ty #[.slice (some ⟨b,0,none⟩) i c,.int .i64 ((n:Int)+(m:Int) - (i:Int))]).run P w=.ok (.slice (some ⟨N,0,none⟩) (n+m) G) w1) →
  (∀ ty dc,(Builtin.copy_ #[T,T] ty #[.slice (some ⟨N,i * sz,none⟩) (n+m - i) dc,.slice (some ⟨vb,0,none⟩) m vc]).run P w1=.ok r1 w2) →
  (∀ ty dc sc,(Builtin.copy_ #[T,T] ty #[.slice (some ⟨N,(i+m) * sz,none⟩) (n+m - (i+m)) dc,.slice (some ⟨b,i * sz,none⟩) (n - i) sc]).run P w2.drew=.ok r2 w3) →
  Calls P f #[.slice (some ⟨b,0,none⟩) n c,.int .i64 i,.slice (some ⟨vb,0,none⟩) m vc] w fun e w'=>e=.returned (.slice (some ⟨N,0,none⟩) (n+m) G)∧w'=w3
theorem Rel.one (R:Rel ren we ωe U O σ a w ω μ) {b':List B} (hb:∀ (id:Nat) (x:B),b'[id]?=some x→σ.b[id]?=some x) (hl:∀ (id:Nat) (cs:List V),b'[id]?≠some (.live false cs)) {sz:Nat} {es:List (List V)} {u:Value} (h:Rep ren (env U σ w ω μ) (.slot 0 0) (.fr sz es) u) :
  Rel ren we ωe U O ⟨[.fr sz es],b'⟩ ⟨#[u],[]⟩ w ω μ:=by
 refine ⟨rfl,rfl,fun i v hv=>?_,fun id p cs hid=>?_,fun id cs hid=>R.fs id cs (hb _ _ hid),fun id es' hid=>R.ms id es' (hb _ _ hid),R.kp,R.ow,R.ul,R.fr,R.rs,R.gv⟩
 ·cases i with
  | zero =>
   cases hv
   show Rep ren _ _ _ u
   cases h with
   | pure h=>cases h
   | fr _ _ β c arr T f hω hb hc hn hsz hcell h1 h=>exact .fr _ _ β c arr T f hω hb hc hn hsz hcell h1 h
   | fr0 _ A=>exact .fr0 _ A
  | succ i=>simp at hv
 ·cases p with
  | false=>exact absurd hid (hl id cs)
  | true =>
   rcases R.bs id true cs (hb _ _ hid) with h | ⟨h0,arr,T,h1,h2,h3⟩
   ·exact .inl h
   ·exact .inr ⟨h0,arr,T,h1,h2,fun j c hj=>by obtain ⟨x,q1,q2,q3,_⟩:=h3 j c hj; exact ⟨x,q1,q2,q3,.pure (q3 rfl)⟩⟩
theorem Rel.more (R:Rel ren we ωe U O σ a w ω μ) (hp:∀ (id:Nat) (cs:List V),σ.b[id]?≠some (.live false cs)) {bs:List B} (hb:σ.b=bs) (ht:σ.t=[]):Rel ren we ωe U O ⟨[],bs++[.gone]⟩ a w ω μ:=by
 have low:∀ {id:Nat} {x:B},(bs++[B.gone])[id]?=some x→x≠.gone→σ.b[id]?=some x:=by
  intro id x h hx
  rw [hb]
  rw [List.getElem?_append] at h
  split at h
  ·exact h
  ·rename_i hlt
   cases hk:id - bs.length with
   | zero=>rw [hk] at h; cases h; exact absurd rfl hx
   | succ k=>rw [hk] at h; simp at h
 refine ⟨R.df,by have:=R.tl; rw [ht] at this; simpa using this,fun i v hv=>by simp at hv,fun id p cs hid=>?_,fun id cs hid=>R.fs id cs (low hid (by simp)),fun id es' hid=>R.ms id es' (low hid (by simp)),R.kp,R.ow,R.ul,R.fr,R.rs,R.gv⟩
 cases p with
 | false=>exact absurd (low hid (by simp)) (hp id cs)
 | true =>
  rcases R.bs id true cs (low hid (by simp)) with h | ⟨h0,arr,T,h1,h2,h3⟩
  ·exact .inl h
  ·exact .inr ⟨h0,arr,T,h1,h2,fun j c hj=>by obtain ⟨x,q1,q2,q3,_⟩:=h3 j c hj; exact ⟨x,q1,q2,q3,.pure (q3 rfl)⟩⟩
theorem Rel.noT1 (R:Rel ren we ωe U O σ a w ω μ):Rel ren we ωe U O ⟨[.junk],σ.b⟩ ⟨#[undef],[]⟩ w ω μ :=
 ⟨rfl,rfl,fun i v h=>(by
  cases i with
  | zero=>cases h; exact .junk
  | succ i=>simp at h),R.bs,R.fs,R.ms,R.kp,R.ow,R.ul,R.fr,R.rs,R.gv⟩
theorem Rel.noT (R:Rel ren we ωe U O σ a w ω μ):Rel ren we ωe U O ⟨[],σ.b⟩ ⟨#[],[]⟩ w ω μ :=
 ⟨rfl,rfl,fun i v h=>by simp at h,R.bs,R.fs,R.ms,R.kp,R.ow,R.ul,R.fr,R.rs,R.gv⟩
theorem znd (sz n m i:Nat) (cs vs:List V):(zeF sz n m i cs vs).length=n+m:=xg _ _ _
theorem zme {sz n m i:Nat} {cs vs:List V} (hi:i≤n) (hc:n * sz≤cs.length) (hv:vs.length=m * sz):(zeF sz n m i cs vs).flatten=cs.take (i * sz)++vs++(cs.take (n * sz)).drop (i * sz):=by
 unfold zeF
 rw [yo,List.take_of_length_le]
 have h:=Nat.mul_le_mul_right sz hi
 simp only [List.length_append,List.length_take,List.length_drop,hv,Nat.add_mul]
 omega
theorem zl4 {sz n m i:Nat} {cs vs:List V} (hi:i≤n) (hc:n * sz≤cs.length) (hv:vs.length=m * sz):∀ e ∈ zeF sz n m i cs vs,e.length=sz:=by
 refine xy sz _ _ ?_
 have h:=Nat.mul_le_mul_right sz hi
 simp only [List.length_append,List.length_take,List.length_drop,hv,Nat.add_mul]
 omega
theorem zki {sz n m i:Nat} {cs vs:List V} (hi:i≤n) (hc:n * sz≤cs.length) (hv:vs.length=m * sz) {j:Nat} {v:V} (h:(zeF sz n m i cs vs).flatten[j]?=some v) :
  (j < i * sz∧cs[j]?=some v)∨(i * sz≤j∧j < i * sz+m * sz∧vs[j - i * sz]?=some v)∨(i * sz+m * sz≤j∧j < n * sz+m * sz∧cs[j - m * sz]?=some v):=by
 rw [zme hi hc hv] at h
 have h0:=Nat.mul_le_mul_right sz hi
 have hl:(cs.take (i * sz)).length=i * sz:=by simp; omega
 rw [List.append_assoc,List.getElem?_append] at h
 split at h
 ·rename_i hj
  rw [hl] at hj
  rw [List.getElem?_take,if_pos hj] at h
  exact .inl ⟨hj,h⟩
 ·rename_i hj
  rw [hl] at hj h
  rw [List.getElem?_append] at h
  split at h
  ·rename_i hj2
   rw [hv] at hj2
   exact .inr (.inl ⟨by omega,by omega,h⟩)
  ·rename_i hj2
   rw [hv] at hj2 h
   rw [List.getElem?_drop,List.getElem?_take] at h
   split at h
   ·rename_i hj3
    exact .inr (.inr ⟨by omega,by omega,by rw [show j - m * sz=i * sz+(j - i * sz - m * sz) by omega]; exact h⟩)
   ·cases h
theorem zgI (w:World) (A B:Array Value) (T:TypeId):(w.alloc (.cells A T)).setRow w.heap.size B=w.alloc (.cells B T):=by
 unfold World.setRow World.alloc
 congr 1
 apply Array.ext
 ·simp
 ·intro i h1 h2
  simp only [Array.getElem_modify,Array.getElem_push]
  by_cases hi:w.heap.size=i
  ·subst hi; simp
  ·have:i < w.heap.size:=by simp at h1; omega
   simp [hi,this]
theorem zkJ (w:World) (g:Nat) (B:Array Value):w.drew.setRow g B=(w.setRow g B).drew:=rfl
theorem zhC {Wr:Nat→Nat→Prop} {arr0 arr1 X:Array Value} {sz n m i:Nat} {cs vs:List V} (hi:i≤n) (hc:n * sz≤cs.length) (hv:vs.length=m * sz)
  (h0:∀ (j:Nat) (c:V),cs[j]?=some c→∃ u,arr0[j]?=some u∧u.oneCell'=true∧RepP ren w Wr c u)
  (h1:∀ (j:Nat) (c:V),vs[j]?=some c→∃ u,arr1[j]?=some u∧u.oneCell'=true∧RepP ren w Wr c u)
  (ha:∀ j,j < i * sz→X[j]?=arr0[j]?) (hb:∀ j,i * sz≤j→j < i * sz+m * sz→X[j]?=arr1[j - i * sz]?) (hd:∀ j,i * sz+m * sz≤j→j < n * sz+m * sz→X[j]?=arr0[j - m * sz]?) :
  ∀ (j:Nat) (c:V),(zeF sz n m i cs vs).flatten[j]?=some c→∃ u,X[j]?=some u∧u.oneCell'=true∧RepP ren w Wr c u:=by
 intro j c hj
 rcases zki hi hc hv hj with ⟨q1,q2⟩ | ⟨q1,q2,q3⟩ | ⟨q1,q2,q3⟩
 ·rw [ha j q1]; exact h0 j c q2
 ·rw [hb j q1 q2]; exact h1 _ c q3
 ·rw [hd j q1 q2]; exact h0 _ c q3
theorem zk7 {args:List V} {us:List Value} {cs vs:List V} (R:Rel ren we ωe U O ⟨args,[.live true cs,.live true vs]⟩ ⟨us.toArray,[]⟩ w ω μ) {sz:Nat} {es:List (List V)} {T:TypeId} {X:Array Value} {c:Nat} (hsz:∀ e ∈ es,e.length=sz) {N:Nat} (hN:es.length=N) (hn:N≤c) (hne:es≠[]) (hc:c * sz≤X.size)
  (hcell:∀ (i:Nat) (v:V),es.flatten[i]?=some v→∃ u,X[i]?=some u∧u.oneCell'=true∧RepP ren w (wr U ω) v u) :
  ∃ ω',Rel ren we ωe U O ⟨[.fr sz es],[.dead cs.length,.live true vs]⟩ ⟨#[.slice (some ⟨w.heap.size,0,none⟩) N c],[]⟩ (w.drew.alloc (.cells X T)) ω' μ:=by
 subst hN
 obtain ⟨_,R1⟩:=R.deaden (id:=0) rfl
 obtain ⟨F3,R3⟩:=R1.noT1.drew
 obtain ⟨ω',R4⟩:=zkj R3 (dst:=some 0) (T:=T) hsz hn hne hc (fun i v hv=>by
  obtain ⟨u,g1,g2,g3⟩:=hcell i v hv
  exact ⟨u,g1,g2,g3.mono F3.st⟩)
 exact ⟨ω',R4⟩
theorem zk4 {args:List V} {us:List Value} {cs vs:List V} (R:Rel ren we ωe U O ⟨args,[.live true cs,.live true vs]⟩ ⟨us.toArray,[]⟩ w ω μ) (hcs:cs≠[]) {sz:Nat} {es:List (List V)} {T:TypeId} {A X:Array Value} {c:Nat} (hA:w.heap[μ 0]?=some (.cells A T (0,0))) (hX:X.size=A.size) (hsz:∀ e ∈ es,e.length=sz) {N:Nat} (hN:es.length=N) (hpos:0 < sz) (hn:N≤c) (hne:es≠[]) (hc:c * sz≤X.size)
  (hcell:∀ (i:Nat) (v:V),es.flatten[i]?=some v→∃ u,X[i]?=some u∧u.oneCell'=true∧RepP ren w (wr U ω) v u) :
  ∃ ω' μ',Rel ren we ωe U O ⟨[.fr sz es],[.dead cs.length,.live true vs]⟩ ⟨#[.slice (some ⟨μ 0,0,none⟩) N c],[]⟩ (w.setRow (μ 0) X) ω' μ'∧∀ k,k < 2→μ' k=μ k:=by
 subst hN
 have hfl:=xm hsz
 have hes:es.flatten≠[]:=by
  intro e
  rw [e] at hfl
  have:0 < es.length:=List.length_pos_iff.2 hne
  have:=Nat.mul_pos this hpos
  simp at hfl; omega
 have hle:es.flatten.length≤X.size:=by rw [hfl]; exact Nat.le_trans (Nat.mul_le_mul_right sz hn) hc
 have R1:=R.noT.more (bs:=[.live true cs,.live true vs]) (fun id cs' h=>by
  match id,h with
  | 0,h=>cases h
  | 1,h=>cases h
  | k+2,h=>simp at h) rfl rfl
 obtain ⟨F2,R2⟩:=R1.rehome (id:=0) (id2:=2) (cs:=cs) (cs2:=es.flatten) rfl hcs rfl hA hX hle hcell
 obtain ⟨F3,R3⟩:=R2.unhome (id:=2) (cs:=es.flatten) rfl hes (.slot 0 0) 0
 have e2:upd μ 2 (μ 0) 2=μ 0:=zh _ _ _
 have hrow:=setRow_heap w (μ 0) A X T _ hA
 refine ⟨_,_,R3.one (b':=[.dead cs.length,.live true vs]) (fun id x h=>?_) (fun id cs' h=>?_) ?_,fun k hk=>zd _ _ (by omega)⟩
 ·match id,h with
  | 0,h=>cases h; rfl
  | 1,h=>cases h; rfl
  | k+2,h=>simp at h
 ·match id,h with
  | 0,h=>cases h
  | 1,h=>cases h
  | k+2,h=>simp at h
 ·refine .fr sz es (μ 0) c X T (fun i=>X.toList.getD i undef) ?_ hrow hc ⟨hn,fun e=>absurd e hne⟩ hsz (fun i v hv=>?_) (fun i v hv=>?_) (fun i v hv=>?_)
  ·show upd _ (upd μ 2 (μ 0) 2) _ (μ 0)=_
   rw [e2]; exact zh _ _ _
  all_goals
   (obtain ⟨u,g1,g2,g3⟩:=hcell i v hv
    have g1':X.toList[i]?=some u:=by simpa using g1
    have e:X.toList.getD i undef=u:=by rw [List.getD_eq_getElem?_getD,g1']; rfl
    simp only [e])
  ·exact g1
  ·exact g2
  ·exact (g3.mono F2.st).mono F3.st
set_option maxHeartbeats 1000000 in
theorem zok {f:FuncId} {T I e:TypeId} {ov:FuncId} {sz bytes:Nat} (W:InsW P f T I e ov sz bytes) (hc:x7 P f=true):zjP P ren sz bytes f:=by
 obtain ⟨kI,hI⟩:=W.it
 obtain ⟨i0,z,hi0,hz,hisz,hby,hzc⟩:=W.inf
 have pos:=W.pos
 refine ⟨hc,fun n m i cs vs hk w us U O ω μ R=>?_⟩
 obtain ⟨k0,k1,hm,hcl,hvl,hbig,hsm⟩:=hk
 obtain ⟨i,rfl⟩:∃ j:Nat,i=j:=⟨i.toNat,by omega⟩
 have hin:i≤n:=by omega
 rw [Int.toNat_natCast]
 unfold zi at hbig hsm
 have hlen:us.length=3:=by have:=R.tl; simpa using this
 obtain ⟨u0,u1,u2,rfl⟩:∃ u0 u1 u2,us=[u0,u1,u2]:=by
  match us,hlen with
  | [a,b,c],_=>exact ⟨a,b,c,rfl⟩
 have r0:Rep ren _ (.slot 0 0) (.own 0 0 n sz) u0:=R.ts 0 _ rfl
 have r1:Rep ren _ (.slot 1 0) (.sc (.int .i64 i)) u1:=R.ts 1 _ rfl
 have r2:Rep ren _ (.slot 2 0) (.own 1 0 m sz) u2:=R.ts 2 _ rfl
 obtain ⟨id0,off0,len0,sz0,c,L0,A,e0,rfl,hL0,hl0,hc0,hz0,hA0⟩:=r0.ownAt
 cases e0
 obtain ⟨id1,off1,len1,sz1,vc,L1,A1,e1,rfl,hL1,hl1,hc1,hz1,hA1⟩:=r2.ownAt
 cases e1
 obtain ⟨rfl,_⟩:=r1.sc_eq
 have hL0:some cs.length=some L0:=hL0
 have hL1:some vs.length=some L1:=hL1
 cases hL0
 cases hL1
 have hmz:0 < m * sz:=Nat.mul_pos hm pos
 have hvne:vs≠[]:=by rintro rfl; simp at hvl; omega
 obtain ⟨q0,arr1,T1,hv1,hv2,hv3⟩:=R.live (id:=1) rfl hvne
 rcases hA1 with ⟨rfl,hA1⟩ | hA1
 rotate_left
 ·omega
 have hV:∀ (j:Nat) (c:V),vs[j]?=some c→∃ u,arr1[j]?=some u∧u.oneCell'=true∧RepP ren w (wr U ω) c u:=fun j c hj=>by
  obtain ⟨u,g1,g2,g3,_⟩:=hv3 j c hj
  exact ⟨u,g1,g2,g3 rfl⟩
 have hnl:(arr1.toList.take (m * sz)).length=m * sz:=by simp; omega
 have hng:∀ (j:Nat),j < m * sz→(arr1.toList.take (m * sz))[j]?=arr1[j]?:=fun j hj=>by rw [List.getElem?_take,if_pos hj]; simp
 have hn1:∀ u ∈ arr1.toList.take (m * sz),u.oneCell'=true:=by
  intro u hu
  obtain ⟨j,hj,rfl⟩:=List.getElem_of_mem hu
  have hj':j < m * sz:=by rw [← hnl]; exact hj
  obtain ⟨u',g1,g2,_⟩:=hV j _ (List.getElem?_eq_getElem (by rw [hvl]; exact hj'))
  have:=hng j hj'
  rw [List.getElem?_eq_getElem hj,g1] at this
  cases this; exact g2
 have hsrc:∀ {w':World},w'.heap[μ 1]?=w.heap[μ 1]?→∀ (j:Nat) (u:Value),(arr1.toList.take (m * sz))[j]?=some u→w'.cell? ((⟨μ 1,0,none⟩:Addr).add j)=some u:=by
  intro w' hw' j u hu
  have hj:j < m * sz:=by have:=(List.getElem?_eq_some_iff.1 hu).1; rw [hnl] at this; exact this
  rw [yP,Nat.zero_add,cell_of_row _ _ _ _ _ _ (hw'.trans hv1)]
  rw [hng j hj] at hu; exact hu
 have hrl:=znd sz n m i cs vs
 have hre:=zl4 (sz:=sz) hin hcl hvl
 have hrne:zeF sz n m i cs vs≠[]:=by intro e; rw [e] at hrl; simp at hrl; omega
 have addm:n * sz+m * sz=(n+m) * sz:=(Nat.add_mul n m sz).symm
 have hisz':=Nat.mul_le_mul_right sz hin
 have hC:0 < c→A=some ⟨μ 0,0,none⟩∧cs≠[]∧μ 1≠μ 0∧∃ arr0 T0,w.heap[μ 0]?=some (.cells arr0 T0 (0,0))∧cs.length≤arr0.size∧c * sz≤arr0.size∧(∀ (j:Nat) (c:V),cs[j]?=some c→∃ u,arr0[j]?=some u∧u.oneCell'=true∧RepP ren w (wr U ω) c u):=by
  intro hcp
  rcases hA0 with ⟨rfl,hA0⟩ | hA0
  rotate_left
  ·omega
  have hcs:cs≠[]:=by
   rintro rfl
   rcases hz0 rfl with h | h <;> omega
  obtain ⟨p0,arr0,T0,p1,p2,p3⟩:=R.live (id:=0) rfl hcs
  have hrs:yi w (μ 0)=arr0.size:=yz p1
  have hA0:0+c * sz≤yi w (μ 0):=hA0
  refine ⟨rfl,hcs,fun e=>?_,arr0,T0,p1,p2,by omega,fun j c hj=>?_⟩
  ·rw [e,p0] at q0; cases q0
  ·obtain ⟨u,g1,g2,g3,_⟩:=p3 j c hj
   exact ⟨u,g1,g2,g3 rfl⟩
 have one0:∀ {arr0:Array Value},(∀ (j:Nat) (c:V),cs[j]?=some c→∃ u,arr0[j]?=some u∧u.oneCell'=true∧RepP ren w (wr U ω) c u)→∀ a b,a+b≤n * sz→∀ u ∈ (arr0.toList.drop a).take b,u.oneCell'=true:=by
  intro arr0 h0 a b hab u hu
  obtain ⟨j,hj,rfl⟩:=List.getElem_of_mem hu
  have hj':j < b:=by simp at hj; omega
  obtain ⟨u',g1,g2,_⟩:=h0 (a+j) _ (List.getElem?_eq_getElem (by omega))
  have:((arr0.toList.drop a).take b)[j]?=some u':=by
   rw [List.getElem?_take,if_pos hj',List.getElem?_drop]; simpa using g1
  rw [List.getElem?_eq_getElem hj] at this
  cases this; exact g2
 have hsub:i * sz+(n - i) * sz=n * sz:=by rw [← Nat.add_mul]; congr 1; omega
 have him:(i+m) * sz=i * sz+m * sz:=Nat.add_mul i m sz
 by_cases hie:i=n
 ·subst hie
  by_cases hroom:i+m≤c
  ·
   obtain ⟨rfl,hcs,hne,arr0,T0,hb0,hsz0,hcz,h0⟩:=hC (by omega)
   have hmc:=Nat.mul_le_mul_right sz hroom
   have hfit:i * sz+(arr1.toList.take (m * sz)).length≤arr0.size:=by rw [hnl]; omega
   refine (W.e (some ⟨μ 0,0,none⟩) i c (μ 1) m vc w _ _ hm (fun h=>by cases h) hc0 hsm (fun ty=>by
    have:=zaC (P:=P) (ty:=ty) (w:=w) (B:=some ⟨μ 1,0,none⟩) (c2:=vc) (sCap:=c) (sLen:=i) (m:=m) W.ty hi0 hb0 (news:=arr1.toList.take (m * sz)) (by rw [hisz]; exact hnl) (fun _=>⟨_,rfl,hsrc rfl⟩) hn1 hroom (by rw [hisz]; exact hfit)
    rw [hisz] at this
    exact this)).mono ?_
   rintro e' w' ⟨rfl,rfl⟩
   have hX:(arr0.toList.take (i * sz)++arr1.toList.take (m * sz)++arr0.toList.drop (i * sz+(arr1.toList.take (m * sz)).length)).toArray.size=arr0.size:=by
    simp only [List.size_toArray,List.length_append,List.length_drop,hnl]; simp; omega
   have hget:∀ j,(arr0.toList.take (i * sz)++arr1.toList.take (m * sz)++arr0.toList.drop (i * sz+(arr1.toList.take (m * sz)).length)).toArray[j]?=if i * sz≤j∧j < i * sz+m * sz then (arr1.toList.take (m * sz))[j - i * sz]? else arr0.toList[j]?:=by
    intro j
    rw [List.getElem?_toArray,yR (by simpa using hfit),hnl]
   obtain ⟨ω',μ',R',h'⟩:=zk4 R hcs hb0 hX hre hrl pos hroom hrne (by rw [hX]; exact hcz) (zhC hin hcl hvl h0 hV (fun j hj=>by rw [hget,if_neg (by omega)]; simp) (fun j h1 h2=>by rw [hget,if_pos ⟨h1,h2⟩,hng _ (by omega)]) (fun j h1 h2=>by omega))
   exact ⟨_,ω',μ',rfl,R',h'⟩
  ·
   have hG:=grownCap_ge w (i+m) c e
   have holds:∃ olds:List Value,olds.length=i * sz∧(olds≠[]→∃ ad,A=some ad∧∀ (j:Nat) (u:Value),olds[j]?=some u→w.cell? (ad.add j)=some u)∧∀ (j:Nat) (c:V),j < i * sz→cs[j]?=some c→∃ u,olds[j]?=some u∧u.oneCell'=true∧RepP ren w (wr U ω) c u:=by
    by_cases hi0':i=0
    ·subst hi0'; exact ⟨[],by simp,fun h=>absurd rfl h,fun j c hj=>by omega⟩
    ·obtain ⟨rfl,hcs,hne,arr0,T0,hb0,hsz0,hcz,h0⟩:=hC (by omega)
     refine ⟨arr0.toList.take (i * sz),by simp; omega,fun _=>⟨_,rfl,fun j u hu=>?_⟩,fun j c hj hc=>?_⟩
     ·rw [List.getElem?_take] at hu
      split at hu
      ·rw [yP,Nat.zero_add,cell_of_row _ _ _ _ _ _ hb0]; simpa using hu
      ·cases hu
     ·obtain ⟨u,g1,g2,g3⟩:=h0 j c hc
      exact ⟨u,by rw [List.getElem?_take,if_pos hj]; simpa using g1,g2,g3⟩
   obtain ⟨olds,ho1,ho2,ho3⟩:=holds
   refine (W.e A i c (μ 1) m vc w _ _ hm (fun h=>by
    rcases hA0 with ⟨h',_⟩ | h'
    ·rw [h] at h'; cases h'
    ·exact h') hc0 hsm (fun ty=>by
    exact xX (P:=P) (ty:=ty) (w:=w) (B:=some ⟨μ 1,0,none⟩) (c2:=vc) (sCap:=c) (sLen:=i) (m:=m) W.ty hi0 hz (olds:=olds) (by rw [hisz]; exact ho1) ho2 (news:=arr1.toList.take (m * sz)) (by rw [hisz]; exact hnl) (fun _=>⟨_,rfl,hsrc rfl⟩) (by omega) (by rw [hby]; exact hbig) hsm)).mono ?_
   rintro e' w' ⟨rfl,rfl⟩
   have hX:grownCap w (i+m) c e * sz≤(olds.toArray++(arr1.toList.take (m * sz)).toArray++Builtin.zeroCells z.cells (grownCap w (i+m) c e - (i+m))).size:=by
    simp only [Array.size_append,List.size_toArray,hnl,ho1,size_zeroCells,hzc]
    rw [← Nat.add_mul,← Nat.add_mul]
    exact Nat.mul_le_mul_right sz (by omega)
   have hget:∀ j,j < i * sz+m * sz→(olds.toArray++(arr1.toList.take (m * sz)).toArray++Builtin.zeroCells z.cells (grownCap w (i+m) c e - (i+m)))[j]?=(olds++arr1.toList.take (m * sz))[j]?:=by
    intro j hj
    rw [Array.getElem?_append_left (by simp only [Array.size_append,List.size_toArray,hnl,ho1]; omega)]
    simp
   obtain ⟨ω',R'⟩:=zk7 (T:=e) R hre hrl hG hrne hX (by
    intro j c hj
    rcases zki hin hcl hvl hj with ⟨q1,q2⟩ | ⟨q1,q2,q3⟩ | ⟨q1,q2,q3⟩
    ·rw [hget j (by omega),List.getElem?_append_left (by omega)]
     exact ho3 j c q1 q2
    ·rw [hget j q2,List.getElem?_append_right (by omega),ho1,hng _ (by omega)]
     exact hV _ c q3
    ·omega)
   exact ⟨_,ω',μ,rfl,R',fun _ _=>rfl⟩
 ·have hlt:i < n:=by omega
  obtain ⟨rfl,hcs,hne,arr0,T0,hb0,hsz0,hcz,h0⟩:=hC (by omega)
  have hncz:=Nat.mul_le_mul_right sz hc0
  have hpl:((arr0.toList.drop (i * sz)).take ((n - i) * sz)).length=(n - i) * sz:=by simp; omega
  have hpg:∀ j,j < (n - i) * sz→((arr0.toList.drop (i * sz)).take ((n - i) * sz))[j]?=arr0[i * sz+j]?:=fun j hj=>by rw [List.getElem?_take,if_pos hj,List.getElem?_drop]; simp
  have hp1:=one0 h0 (i * sz) ((n - i) * sz) (by omega)
  have hpsrc:∀ {w':World},w'.heap[μ 0]?=w.heap[μ 0]?→∀ (j:Nat) (u:Value),((arr0.toList.drop (i * sz)).take ((n - i) * sz))[j]?=some u→w'.cell? ((⟨μ 0,i * sz,none⟩:Addr).add j)=some u:=by
   intro w' hw' j u hu
   have hj:j < (n - i) * sz:=by have:=(List.getElem?_eq_some_iff.1 hu).1; rw [hpl] at this; exact this
   rw [yP,cell_of_row _ _ _ _ _ _ (hw'.trans hb0)]
   rw [hpg j hj] at hu; exact hu
  have hinf:(P.info? e).map (·.size)=some sz:=by rw [hi0]; simp [hisz]
  by_cases hroom:n+m≤c
  ·
   have hmc:=Nat.mul_le_mul_right sz hroom
   have hfit1:(i+m) * sz+((arr0.toList.drop (i * sz)).take ((n - i) * sz)).length≤arr0.size:=by rw [hpl]; omega
   obtain ⟨X1,hX1⟩:∃ X1,X1=(arr0.toList.take ((i+m) * sz)++(arr0.toList.drop (i * sz)).take ((n - i) * sz)++arr0.toList.drop ((i+m) * sz+((arr0.toList.drop (i * sz)).take ((n - i) * sz)).length)).toArray:=⟨_,rfl⟩
   have hX1s:X1.size=arr0.size:=by
    rw [hX1]; simp only [List.size_toArray,List.length_append,List.length_drop,hpl]; simp; omega
   have hX1g:∀ j,X1[j]?=if (i+m) * sz≤j∧j < (i+m) * sz+(n - i) * sz then ((arr0.toList.drop (i * sz)).take ((n - i) * sz))[j - (i+m) * sz]? else arr0.toList[j]?:=by
    intro j
    rw [hX1,List.getElem?_toArray,yR (by simpa using hfit1),hpl]
   have hb1:(w.drew.setRow (μ 0) X1).heap[μ 0]?=some (.cells X1 T0 (0,0)):=setRow_heap _ _ _ _ _ _ hb0
   have hfit2:i * sz+(arr1.toList.take (m * sz)).length≤X1.size:=by rw [hnl]; omega
   obtain ⟨X2,hX2⟩:∃ X2,X2=(X1.toList.take (i * sz)++arr1.toList.take (m * sz)++X1.toList.drop (i * sz+(arr1.toList.take (m * sz)).length)).toArray:=⟨_,rfl⟩
   have hX2s:X2.size=arr0.size:=by
    rw [hX2]; simp only [List.size_toArray,List.length_append,List.length_drop,hnl]; simp; omega
   have hX2g:∀ j,X2[j]?=if i * sz≤j∧j < i * sz+m * sz then (arr1.toList.take (m * sz))[j - i * sz]? else X1[j]?:=by
    intro j
    rw [hX2,List.getElem?_toArray,yR (by simpa using hfit2),hnl]; simp
   refine (W.s (μ 0) n c i (μ 1) m vc w hlt hm hroom hsm hne _ _ _ _ (fun lb cb=>W.ovl w _ _ _ _ _ _ _ _ _ _ _ hne hv1 hb0 (by omega)) (fun ty dc sc=>zeW w.drew W.ty hinf (μ 0) ((i+m) * sz) (n+m - (i+m)) dc ⟨μ 0,i * sz,none⟩ (n+m - i) sc arr0 T0 _ hb0 (by rw [hpl,show Nat.min (n+m - i) (n+m - (i+m))=n - i from by show min _ _=_; omega]) (hpsrc rfl) hfit1 hp1)
    (fun ty dc=>by
     rw [← hX1]
     exact zeW (w.drew.setRow (μ 0) X1) W.ty hinf (μ 0) (i * sz) (n+m - i) dc ⟨μ 1,0,none⟩ m vc X1 T0 _ hb1 (by rw [hnl,show Nat.min m (n+m - i)=m from by show min _ _=_; omega]) (hsrc (setRow_other _ _ _ _ hne)) hfit2 hn1)).mono ?_
   rintro e' w' ⟨rfl,rfl⟩
   rw [← hX2,setRow_setRow]
   obtain ⟨FD,RD⟩:=R.drew
   obtain ⟨ω',μ',R',h'⟩:=zk4 RD hcs hb0 hX2s hre hrl pos hroom hrne (by rw [hX2s]; exact hcz) (zhC hin hcl hvl (fun j c hj=>by obtain ⟨u,g1,g2,g3⟩:=h0 j c hj; exact ⟨u,g1,g2,g3.mono FD.st⟩) (fun j c hj=>by obtain ⟨u,g1,g2,g3⟩:=hV j c hj; exact ⟨u,g1,g2,g3.mono FD.st⟩)
    (fun j hj=>by rw [hX2g,if_neg (by omega),hX1g,if_neg (by omega)]; simp) (fun j h1 h2=>by rw [hX2g,if_pos ⟨h1,h2⟩,hng _ (by omega)])
    (fun j h1 h2=>by rw [hX2g,if_neg (by omega),hX1g,if_pos ⟨by omega,by omega⟩,hpg _ (by omega)]; congr 1; omega))
   exact ⟨_,ω',μ',rfl,R',h'⟩
  ·
   have hnn:i+(n+m - i)=n+m:=by omega
   have hnz:((n:Int)+(m:Int) - (i:Int))=((n+m - i:Nat):Int):=by omega
   have hG:=grownCap_ge w (n+m) c e
   have holdl:(arr0.toList.take (i * sz)).length=i * sz:=by simp; omega
   obtain ⟨XN,hXN⟩:∃ XN,XN=((arr0.toList.take (i * sz)).toArray++Builtin.zeroCells z.cells (n+m - i)++Builtin.zeroCells z.cells (grownCap w (n+m) c e - (n+m))):=⟨_,rfl⟩
   have hXs:XN.size=grownCap w (n+m) c e * sz:=by
    rw [hXN]
    simp only [Array.size_append,List.size_toArray,holdl,size_zeroCells,hzc]
    rw [← Nat.add_mul,← Nat.add_mul]
    congr 1; omega
   have hGz:=Nat.mul_le_mul_right sz hG
   have hXg:∀ j,j < i * sz→XN[j]?=arr0[j]?:=by
    intro j hj
    rw [hXN,Array.getElem?_append_left (by simp only [Array.size_append,List.size_toArray,holdl]; omega),Array.getElem?_append_left (by simp only [List.size_toArray,holdl]; omega)]
    rw [List.getElem?_toArray,List.getElem?_take,if_pos hj]; simp
   have hl0:μ 0 < w.heap.size:=by have:=(Array.getElem?_eq_some_iff.1 hb0).1; exact this
   have hl1:μ 1 < w.heap.size:=by have:=(Array.getElem?_eq_some_iff.1 hv1).1; exact this
   have hbN:(w.drew.alloc (.cells XN e)).heap[w.heap.size]?=some (.cells XN e (0,0)):=heap_alloc_new w.drew _
   have hfit1:i * sz+(arr1.toList.take (m * sz)).length≤XN.size:=by rw [hnl]; omega
   obtain ⟨X1,hX1⟩:∃ X1,X1=(XN.toList.take (i * sz)++arr1.toList.take (m * sz)++XN.toList.drop (i * sz+(arr1.toList.take (m * sz)).length)).toArray:=⟨_,rfl⟩
   have hX1s:X1.size=XN.size:=by
    rw [hX1]; simp only [List.size_toArray,List.length_append,List.length_drop,hnl]; simp; omega
   have hX1g:∀ j,X1[j]?=if i * sz≤j∧j < i * sz+m * sz then (arr1.toList.take (m * sz))[j - i * sz]? else XN[j]?:=by
    intro j
    rw [hX1,List.getElem?_toArray,yR (by simpa using hfit1),hnl]; simp
   have eA:(w.drew.alloc (.cells XN e)).setRow w.heap.size X1=w.drew.alloc (.cells X1 e):=zgI w.drew XN X1 e
   have hb1:((w.drew.alloc (.cells X1 e)).drew).heap[w.heap.size]?=some (.cells X1 e (0,0)):=heap_alloc_new w.drew _
   have hfit2:(i+m) * sz+((arr0.toList.drop (i * sz)).take ((n - i) * sz)).length≤X1.size:=by rw [hpl]; omega
   obtain ⟨X2,hX2⟩:∃ X2,X2=(X1.toList.take ((i+m) * sz)++(arr0.toList.drop (i * sz)).take ((n - i) * sz)++X1.toList.drop ((i+m) * sz+((arr0.toList.drop (i * sz)).take ((n - i) * sz)).length)).toArray:=⟨_,rfl⟩
   have hX2s:X2.size=XN.size:=by
    rw [hX2]; simp only [List.size_toArray,List.length_append,List.length_drop,hpl]; simp; omega
   have hX2g:∀ j,X2[j]?=if (i+m) * sz≤j∧j < (i+m) * sz+(n - i) * sz then ((arr0.toList.drop (i * sz)).take ((n - i) * sz))[j - (i+m) * sz]? else X1[j]?:=by
    intro j
    rw [hX2,List.getElem?_toArray,yR (by simpa using hfit2),hpl]; simp
   refine (W.g (μ 0) n c i (μ 1) m vc w.heap.size (grownCap w (n+m) c e) w hlt hm hc0 (by omega) hsm hG _ _ (w.drew.alloc (.cells XN e)) (w.drew.alloc (.cells X1 e)) _ (fun ty=>by
     have:=zed (P:=P) (ty:=ty) (w:=w) (A:=some ⟨μ 0,0,none⟩) (sLen:=i) (sCap:=c) (m:=n+m - i) (k':=.i64) W.ty hI hi0 hz (by omega) (olds:=arr0.toList.take (i * sz)) (by rw [hisz]; exact holdl) (fun _=>⟨_,rfl,fun j u hu=>by
      rw [List.getElem?_take] at hu
      split at hu
      ·rw [yP,Nat.zero_add,cell_of_row _ _ _ _ _ _ hb0]; simpa using hu
      ·cases hu⟩) (by omega) (by rw [hnn,hby]; exact hbig) (by omega) (by omega)
     rw [hnn,← hXN] at this
     rw [hnz]; exact this)
    (fun ty dc=>by
     have:=zeW (P:=P) (ty:=ty) (sT:=T) (w.drew.alloc (.cells XN e)) W.ty hinf w.heap.size (i * sz) (n+m - i) dc ⟨μ 1,0,none⟩ m vc XN e _ hbN (by rw [hnl,show Nat.min m (n+m - i)=m from by show min _ _=_; omega]) (hsrc (heap_alloc_old w.drew _ hl1)) hfit1 hn1
     rw [← hX1,eA] at this
     exact this)
    (fun ty dc sc=>zeW (w.drew.alloc (.cells X1 e)).drew W.ty hinf w.heap.size ((i+m) * sz) (n+m - (i+m)) dc ⟨μ 0,i * sz,none⟩ (n - i) sc X1 e _ hb1 (by rw [hpl,show Nat.min (n - i) (n+m - (i+m))=n - i from by show min _ _=_; omega]) (hpsrc (heap_alloc_old w.drew _ hl0)) hfit2 hp1)).mono ?_
   rintro e' w' ⟨rfl,rfl⟩
   rw [← hX2,zkJ,show (w.drew.alloc (.cells X1 e)).setRow w.heap.size X2=w.drew.alloc (.cells X2 e) from zgI w.drew X1 X2 e]
   obtain ⟨ω',R'⟩:=zk7 (T:=e) R hre hrl hG hrne (by rw [hX2s,hXs]; exact Nat.le_refl _) (zhC (X:=X2) hin hcl hvl h0 hV
    (fun j hj=>by rw [hX2g,if_neg (by omega),hX1g,if_neg (by omega),hXg j hj])
    (fun j h1 h2=>by rw [hX2g,if_neg (by omega),hX1g,if_pos ⟨h1,h2⟩,hng _ (by omega)])
    (fun j h1 h2=>by rw [hX2g,if_pos ⟨by omega,by omega⟩,hpg _ (by omega)]; congr 1; omega))
   obtain ⟨FD,RD⟩:=R'.drew
   exact ⟨_,ω',μ,rfl,RD,fun _ _=>rfl⟩
end
end Go.Proofs.Ytmfiekdpifgimaa
