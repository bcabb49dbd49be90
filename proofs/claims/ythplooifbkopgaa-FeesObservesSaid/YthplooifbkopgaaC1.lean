/- The abstract machine again, with the rest of the run handed along: what is stuck on unknown data stands as a word of its own, so that a run on known code computes down to plain text. Nothing of the program is in here. -/
import Derived.Test.YthplooifbkopgaaE1
namespace Go.Proofs.Ythplooifbkopgaa

/-! ### words at which a run on unknown data stops -/
section
variable {β : Type}
def chk (p : Prop) [Decidable p] (k : Option β) : Option β := if p then k else none
def ifb (t : Bool) (a b : Option β) : Option β := match t with
  | true => a
  | false => b
def lt {α : Type} (a : α) (k : α → Option β) : Option β := k a
def aI (kd : IntKind) (v : V) (k : Int → Option β) : Option β := match v with
  | .sc (.int kd' n) => if kd' = kd then k n else none
  | _ => none
def anyI (v : V) (k : Int → Option β) : Option β := match v with
  | .sc (.int _ n) => k n
  | _ => none
def aB (v : V) (k : Bool → Option β) : Option β := match v with
  | .sc (.bool b) => k b
  | _ => none
def aS (v : V) (k : ByteArray → Option β) : Option β := match v with
  | .sc (.string s) => k s
  | _ => none
def aL (sz : Nat) (v : V) (k : List (List V) → Option β) : Option β := match v with
  | .sl sz' es => if sz' = sz then k es else none
  | _ => none
/-- a slice, growing or not -/
def aLd (sz : Nat) (v : V) (k : List (List V) → Option β) : Option β := match v with
  | .sl sz' es => if sz' = sz then k es else none
  | .gs sz' es => if sz' = sz then k es else none
  | _ => none
def aA (n : Nat) (v : V) (k : List V → Option β) : Option β := match v with
  | .agg cs => if cs.length = n then k cs else none
  | _ => none
def aG (v : V) (k : List V → Option β) : Option β := match v with
  | .agg cs => k cs
  | _ => none
def aGs (sz : Nat) (v : V) (k : List (List V) → Option β) : Option β := match v with
  | .gs sz' es => if sz' = sz then k es else none
  | _ => none
def aP (id off : Nat) (v : V) (k : Option β) : Option β := match v with
  | .ptr i o => if i = id ∧ o = off then k else none
  | _ => none
def aM (id : Nat) (v : V) (k : Option β) : Option β := match v with
  | .mp i => if i = id then k else none
  | _ => none
def aO (id sz : Nat) (v : V) (k : Nat → Nat → Option β) : Option β := match v with
  | .own i o l s => if i = id ∧ s = sz then k o l else none
  | _ => none
def aO0 (id sz : Nat) (v : V) (k : Nat → Option β) : Option β := match v with
  | .own i o l s => if i = id ∧ s = sz ∧ o = 0 then k l else none
  | _ => none
def aFp (n : Nat) (v : V) (k : List V → Option β) : Option β := match v with
  | .fp m cs => if m = n then k cs else none
  | _ => none
def aV (u : Value) (v : V) (k : Option β) : Option β := match u, v with
  | .nilFunc, .sc .nilFunc => k
  | .pointer none, .sc (.pointer none) => k
  | .map none, .sc (.map none) => k
  | _, _ => none
def capsAre : List (Nat × Nat) → List V → Bool
  | [], [] => true
  | (i, o) :: r, .ptr a b :: s => Nat.beq i a && (Nat.beq o b && capsAre r s)
  | _, _ => false
def aF (f : Nat) (caps : List (Nat × Nat)) (v : V) (k : Option β) : Option β := match v with
  | .fn g cs => match Nat.beq f g && capsAre caps cs with
    | true => k
    | false => none
  | _ => none
def cellAt (cs : List V) (off : Nat) (k : V → Option β) : Option β := match cs[off]? with
  | some v => k v
  | none => none
def idx (es : List (List V)) (j : Int) (k : List V → Option β) : Option β := if 0 ≤ j then (match es[j.toNat]? with
  | some c => k c
  | none => none) else none
def eqC (n : Nat) (a b : List V) (k : Bool → Option β) : Option β := if a.length = n ∧ b.length = n then (match eqCells a b with
  | some r => k r
  | none => none) else none
def strC (es : List (List V)) (k : ByteArray → Option β) : Option β := match toBytes es with
  | some l => k ⟨l.toArray⟩
  | none => none
def cmpC (es fs : List (List V)) (k : Int → Option β) : Option β := match toBytes es with
  | some a => match toBytes fs with
    | some b => k (Lib.compareBytes a b)
    | none => none
  | none => none
def plainsC (cs : List V) (k : List V → Option β) : Option β := match cs.mapM V.plain with
  | some vs => k vs
  | none => none
def refsC (cs : List V) (k : List V → Option β) : Option β := match cs.mapM V.refd with
  | some vs => k vs
  | none => none
def mAt (kd : Nat) (key : V) (es : List (V × V)) (k : Option V → Option β) : Option β := match keyOk kd key with
  | true => match mfind key es with
    | some r => k r
    | none => none
  | false => none
def mPut (kd : Nat) (key val : V) (es : List (V × V)) (k : List (V × V) → Option β) : Option β := match keyOk kd key with
  | true => match mset key val es with
    | some r => k r
    | none => none
  | false => none
/-- short forms for the printed text -/
def cI (kd : IntKind) (cs : List V) (off : Nat) (k : Int → Option β) : Option β := cellAt cs off (fun v => aI kd v k)
def cB (cs : List V) (off : Nat) (k : Bool → Option β) : Option β := cellAt cs off (fun v => aB v k)
def cS (cs : List V) (off : Nat) (k : ByteArray → Option β) : Option β := cellAt cs off (fun v => aS v k)
def cL (sz : Nat) (cs : List V) (off : Nat) (k : List (List V) → Option β) : Option β := cellAt cs off (fun v => aL sz v k)
def cLd (sz : Nat) (cs : List V) (off : Nat) (k : List (List V) → Option β) : Option β := cellAt cs off (fun v => aLd sz v k)
end

/-! numbers -/
def iand (k : IntKind) (a b : Int) : Int := k.wrap (BitVec.ofInt k.bits a &&& BitVec.ofInt k.bits b).toNat
def ior (k : IntKind) (a b : Int) : Int := k.wrap (BitVec.ofInt k.bits a ||| BitVec.ofInt k.bits b).toNat
def ixor (k : IntKind) (a b : Int) : Int := k.wrap (BitVec.ofInt k.bits a ^^^ BitVec.ofInt k.bits b).toNat
def iandNot (k : IntKind) (a b : Int) : Int := k.wrap (BitVec.ofInt k.bits a &&& ~~~ BitVec.ofInt k.bits b).toNat
def inot (k : IntKind) (n : Int) : Int := k.wrap (BitVec.ofInt k.bits (if k.signed then -1 else k.max) ^^^ BitVec.ofInt k.bits n).toNat
def ishl (k : IntKind) (a b : Int) : Int := k.wrap (a * 2 ^ (min b.toNat k.bits))
def ishr (k : IntKind) (a b : Int) : Int := a.fdiv (2 ^ (min b.toNat k.bits))
def imax (a b : Int) : Int := if b > a then b else a
def imin (a b : Int) : Int := if b < a then b else a
/-- what is known of a cell from its type -/
inductive Sh where
  | any
  | int (k : IntKind)
  | bool
  | str
  | sl (sz : Nat)
  | row (l : List Sh)
def asc {β : Type} (s : Sh) (v : V) (k : V → Option β) : Option β := match s with
  | .any => k v
  | .int kd => aI kd v (fun n => k (.sc (.int kd n)))
  | .bool => aB v (fun b => k (.sc (.bool b)))
  | .str => aS v (fun t => k (.sc (.string t)))
  | .sl sz => aL sz v (fun es => k (.sl sz es))
  | .row _ => none
/-- the same for a copy -/
def ascD {β : Type} (s : Sh) (v : V) (k : V → Option β) : Option β := match s with
  | .any => k v.dem
  | .int kd => aI kd v (fun n => k (.sc (.int kd n)))
  | .bool => aB v (fun b => k (.sc (.bool b)))
  | .str => aS v (fun t => k (.sc (.string t)))
  | .sl sz => aLd sz v (fun es => k (.sl sz es))
  | .row _ => none
/-- a row, cell by cell -/
def expand {β : Type} : List Sh → Nat → List V → (List V → Option β) → Option β
  | [], _, _, k => k []
  | s :: ss, i, cs, k => cellAt cs i fun v => asc s v fun v => expand ss (i + 1) cs fun r => k (v :: r)
def expandC {β : Type} (s : Sh) (cs : List V) (k : List V → Option β) : Option β := match s with
  | .row ss => chk (cs.length = ss.length) (expand ss 0 cs k)
  | _ => k cs
abbrev CBC := ∀ (β : Type), Nat → List V → Bor → (V → Bor → Option β) → Option β

section
variable {β : Type}
def onSt (o : Option St) (κ : St → Option β) : Option β := match o with
  | some σ => κ σ
  | none => none
/-- a number gets a name of its own -/
def ltV (v : Value) (k : Value → Option β) : Option β := match v with
  | .int kd n => lt n fun n => k (.int kd n)
  | v => k v
/-- an empty slice, known as such -/
def nilAs : V → V
  | .gs sz _ => .gs sz []
  | .sl sz _ => .sl sz []
  | v => v
def pickV (t : Bool) (a b : V) (k : V → Option β) : Option β := match a, b with
  | .sc (.bool x), .sc (.bool y) => k (.sc (.bool (cond t x y)))
  | .sc (.int kd x), .sc (.int kd' y) => if kd = kd' then lt (cond t x y) (fun n => k (.sc (.int kd n))) else none
  | a, b => ifb t (k a) (k b)
def fillC (σ : St) : List (Nat × Nat × Src) → List V → (List V → Option β) → Option β
  | [], cs, k => k cs
  | (off, n, x) :: rest, cs, k => match (x.get σ).plain with
    | some v => chk (v.cells.length = n ∧ off + n ≤ cs.length) (fillC σ rest (setAt cs off v.cells) k)
    | none => none
def fillRC (sh : Nat → Sh) (σ : St) : List (Nat × Nat × Src) → List V → (List V → Option β) → Option β
  | [], cs, k => k cs
  | (off, n, x) :: rest, cs, k => match x.get σ with
    | .agg us => expandC (sh ((x.slot).getD 0)) us fun us => chk (us.length = n ∧ off + n ≤ cs.length) (fillRC sh σ rest (setAt cs off us) k)
    | v => match v.refd with
      | some v => chk (v.cells.length = n ∧ off + n ≤ cs.length) (fillRC sh σ rest (setAt cs off v.cells) k)
      | none => none
def binC (op : BinOp) (x y : Value) (k : Value → Option β) : Option β :=
  match op, x, y with
  | .shl, .int kd a, .int _ b => chk (0 ≤ b) (k (.int kd (kd.wrap (a * 2 ^ (min b.toNat kd.bits)))))
  | .shr, .int kd a, .int _ b => chk (0 ≤ b) (k (.int kd (a.fdiv (2 ^ (min b.toNat kd.bits)))))
  | .quo, .int kd a, .int kd' b => if kd = kd' then chk (b ≠ 0) (k (.int kd (kd.wrap (a.tdiv b)))) else none
  | .rem, .int kd a, .int kd' b => if kd = kd' then chk (b ≠ 0) (k (.int kd (a.tmod b))) else none
  | op, x, y => match binSc op x y with
    | some r => k r
    | none => none
def boundC (σ : St) (x : Option Src) (dflt : Nat) (most : Nat) (k : Nat → Option β) : Option β :=
  match x with
  | none => k dflt
  | some s => anyI (s.get σ) fun i => chk (0 ≤ i ∧ i ≤ most) (k i.toNat)
def boundsC (σ : St) (len : Nat) (lo hi mx : Option Src) (k : Nat → Nat → Nat → Option β) : Option β :=
  boundC σ mx len len fun m => boundC σ hi len m fun h => boundC σ lo 0 h fun l => k l h m
def gsOrOwn (l h m id off sz : Nat) (k : V → Option β) : Option β := ifb (decide (m = l)) (k (.gs sz [])) (k (.own id (off + l * sz) (h - l) sz))
def viewC (b : List B) (v : V) (k : V → Option β) : Option β := match view b v with
  | some u => k u
  | none => none
def cellK (sh : Sh) (cs : List V) (off : Nat) (k : V → Option β) : Option β := cellAt cs off (fun v => asc sh v k)
def cellKD (sh : Sh) (cs : List V) (off : Nat) (k : V → Option β) : Option β := cellAt cs off (fun v => ascD sh v k)
def putRC (nb : Nat) (σ : St) (dst : Option Nat) (pin : Bool) (v : V) (κ : St → Option β) : Option β := match v with
  | .fr sz es => match pin with
    | true => onSt (σ.putG nb dst true sz es) κ
    | false => κ (σ.put dst (.gs sz es))
  | v => onSt (σ.putR nb dst pin v) κ
def freezeC (b : List B) (id : Nat) (κ : List B → Option β) : Option β := match b[id]? with
  | some (.live true cs) => ifb cs.isEmpty (κ b) (κ (b.set id (.fz cs)))
  | _ => κ b
def frozenC (σ : St) : List (Src × Nat) → List B → (List B → Option β) → Option β
  | [], b, κ => κ b
  | s :: rest, b, κ => match decide (2 ≤ s.2) with
    | true => frozenC σ rest b κ
    | false => match ownId (s.1.get σ) with
      | some id => freezeC b id fun b => frozenC σ rest b κ
      | none => frozenC σ rest b κ
def fzAllC (nb : Nat) : List Nat → St → (St → Option β) → Option β
  | [], σ, κ => κ σ
  | d :: fz, σ, κ => match σ.b[nb + d]? with
    | some (.live true cs) => chk (cs.length ≠ 0) (fzAllC nb fz { σ with b := σ.b.set (nb + d) (.fz cs) } κ)
    | _ => fzAllC nb fz σ κ
def doCallC (cb : CBC) (nb : Nat) (σ : St) (dst : Option Nat) (pin : Bool) (f : Nat) (args : List V) (srcs : List (Src × Nat)) (xs : List Nat) (κ : St → Option β) : Option β :=
  frozenC σ srcs σ.b fun b1 =>
  let σ1 : St := { σ with b := b1 }
  let ids := lentIds σ1.b args
  match lendAll σ1.b ids ids with
  | none => none
  | some bor => cb β f (args.map (renV (idxIn ids))) bor fun r bor' =>
    let ids' := ids ++ (xs.map (nb + ·)).take (bor'.length - ids.length)
    chk ((bor'.take ids.length).map B.len = bor.map B.len)
      (match decide (bor'.length = ids'.length) && (args.all (fun a => (refsOf a).all ids.contains) && (noRef r && ((refsR r).all (fun k => decide (k < ids'.length)) && (bor'.all (B.lend (List.range ids'.length)) && (sameKind (bor'.take ids.length) bor && ((bor'.drop ids.length).all B.isRow && freeIds σ1.b nb xs)))))) with
      | true => putRC nb { σ1 with b := giveBack (fun k => ids'.getD k 0) ids' bor' σ1.b } dst pin (renR (fun k => ids'.getD k 0) r) κ
      | false => none)
def stepC (sh : Nat → Sh) (cb : CBC) (nb : Nat) (σ : St) (dst : Option Nat) (pin : Bool) (k : K) (κ : St → Option β) : Option β :=
  match k with
  | .pick c a b => aB (c.get σ) fun t => pickV t (a.get σ).dem (b.get σ).dem fun v => κ (σ.put dst v)
  | .build zero parts => fillC σ parts zero fun cs => κ (σ.put dst (.agg cs))
  | .buildSt zero parts => fillRC sh σ parts zero fun cs => κ (σ.put dst (.st cs))
  | .nilT neg x => match (x.get σ).dem with
    | .sl _ es => match x with
      | .tmp t => ifb es.isEmpty (lt { σ with t := σ.t.set t (nilAs (x.get σ)) } fun σ => κ (σ.put dst .ub)) (κ (σ.put dst (.sc (.bool neg))))
      | .const _ => none
    | _ => none
  | .un op x => match x.get σ with
    | .sc a => match unSc op a with
      | some r => ltV r fun r => κ (σ.put dst (.sc r))
      | none => none
    | _ => none
  | .conv k x => anyI (x.get σ) fun n => lt (k.wrap n) fun n => κ (σ.put dst (.sc (.int k n)))
  | .mm isMax x y => match x.get σ, y.get σ with
    | .sc (.int k a), .sc (.int _ b) => lt (if isMax then (if b > a then b else a) else (if b < a then b else a)) fun n => κ (σ.put dst (.sc (.int k n)))
    | _, _ => none
  | .copy sz d s => match d.get σ with
    | .own id off len sz1 => viewC σ.b (s.get σ) fun u => match u with
      | .sl sz2 es => match σ.b[id]? with
        | some (.live true cs) => chk (sz1 = sz ∧ sz2 = sz) (lt (setAt cs off (es.take (min es.length len)).flatten) fun cs' => κ ((σ.setB id (.live true cs')).put dst (.sc (.int .i64 ((min es.length len : Nat) : Int)))))
        | _ => none
      | _ => none
    | _ => none
  | .box p x => match x.get σ with
    | .st cs => match p with
      | true => none
      | false => onSt (σ.newB nb dst (.live false cs) (fun id => .ptr id 0)) κ
    | v => match v.plain with
      | some v => match p with
        | true => onSt (σ.newB nb dst (.live true v.cells) (fun id => .ptr id 0)) κ
        | false => expandC (sh (dst.getD 0)) v.cells fun cs => onSt (σ.newB nb dst (.live false cs) (fun id => .ptr id 0)) κ
      | none => none
  | .buildSlice sz n zero parts => fillC σ parts (List.replicate n zero).flatten fun cs => onSt (σ.putG nb dst pin sz (chunks sz n cs)) κ
  | .bin op x y => match x.get σ, y.get σ with
    | .sc a, .sc b => binC op a b fun r => ltV r fun r => κ (σ.put dst (.sc r))
    | _, _ => none
  | .eqAgg neg n x y => match x.get σ, y.get σ with
    | .agg a, .agg b => eqC n a b fun r => κ (σ.put dst (.sc (.bool (if neg then !r else r))))
    | _, _ => none
  | .toStr x => viewC σ.b (x.get σ) fun v => match v with
    | .sl 1 es => strC es fun s => κ (σ.put dst (.sc (.string s)))
    | _ => none
  | .cmpB x y => viewC σ.b (x.get σ) fun u => viewC σ.b (y.get σ) fun v => match u, v with
    | .sl 1 es, .sl 1 fs => cmpC es fs fun n => lt n fun n => κ (σ.put dst (.sc (.int .i64 n)))
    | _, _ => none
  | .makeSlice sz bytes zero l c => anyI (l.get σ) fun l => anyI (c.get σ) fun c =>
    match pin with
    | true => chk (0 ≤ l ∧ l ≤ c ∧ c.toNat * bytes ≤ sizeCap ∧ c ≤ sizeCap ∧ l = c) (onSt (σ.putG nb dst true sz (List.replicate l.toNat zero)) κ)
    | false => chk (0 ≤ l ∧ l ≤ c ∧ c.toNat * bytes ≤ sizeCap ∧ c ≤ sizeCap) (onSt (σ.putG nb dst false sz (List.replicate l.toNat zero)) κ)
  | .sliceA n sz x lo hi mx => boundsC σ n lo hi mx fun l h m =>
    match x.get σ with
    | .ptr id off => match σ.b[id]? with
      | some (.live _ cs) => chk (off + n * sz ≤ cs.length) (gsOrOwn l h m id off sz fun v => κ (σ.put dst v))
      | some (.fz cs) => chk (off + n * sz ≤ cs.length) (gsOrOwn l h m id off sz fun v => κ (σ.put dst v))
      | _ => none
    | .fp q cs => chk (n * sz ≤ q) (κ (σ.put dst (.sl sz (chunks sz (h - l) (cs.drop (l * sz))))))
    | _ => none
  | .sliceS sz x lo hi mx => match (x.get σ).dem with
    | .sl sz' es => boundsC σ es.length lo hi mx fun l h m =>
      chk (sz = sz') (match mx with
        | none => κ (σ.put dst (.sl sz ((es.drop l).take (h - l))))
        | some _ => ifb (decide (m = l)) (κ (σ.put dst (.fr sz []))) (κ (σ.put dst (.sl sz ((es.drop l).take (h - l))))))
    | .own id off len sz' => boundsC σ len lo hi mx fun l h m => chk (sz = sz') (match mx with
        | none => κ (σ.put dst (.own id (off + l * sz) (h - l) sz))
        | some _ => ifb (decide (m = l)) (κ (σ.put dst (.fr sz []))) (κ (σ.put dst .junk)))
    | _ => none
  | .field agg o n x => match x.get σ with
    | .agg cs => match agg with
      | true => κ (σ.put dst (.agg ((cs.drop o).take n)))
      | false => cellK (sh (dst.getD 0)) cs o fun v => κ (σ.put dst v)
    | .st cs => match agg with
      | true => none
      | false => match cs[o]? with
        | some v => κ (σ.put dst v)
        | none => none
    | _ => none
  | .indexAddrA len sz x i => anyI (i.get σ) fun j => chk (0 ≤ j ∧ j < len) (match x.get σ with
      | .ptr id off => κ (σ.put dst (.ptr id (off + j.toNat * sz)))
      | .fp n cs => chk (len * sz ≤ n) (κ (σ.put dst (.fp (n - j.toNat * sz) (cs.drop (j.toNat * sz)))))
      | _ => none)
  | .indexAddrS sz x i => anyI (i.get σ) fun j => match (x.get σ).dem with
      | .sl sz' es => chk (sz = sz') (idx es j fun c => κ (σ.put dst (.fp sz c)))
      | .own id off len sz' => chk (sz = sz') (chk (0 ≤ j ∧ j < len) (κ (σ.put dst (.ptr id (off + j.toNat * sz)))))
      | _ => none
  | .indexA agg len sz x i => anyI (i.get σ) fun j => chk (0 ≤ j ∧ j < len) (match x.get σ with
      | .agg cs => match agg with
        | true => κ (σ.put dst (.agg ((cs.drop (j.toNat * sz)).take sz)))
        | false => cellK (sh (dst.getD 0)) cs (j.toNat * sz) fun v => κ (σ.put dst v)
      | _ => none)
  | .load agg n a take => match a.get σ with
    | .ptr id off => match σ.b[id]? with
      | some (.live p cs) => match agg with
        | true => chk (off + n ≤ cs.length) (match p with
          | true => κ (σ.put dst (.agg ((cs.drop off).take n)))
          | false => match take with
            | true => refsC ((cs.drop off).take n) fun vs => κ (σ.put dst (.st vs))
            | false => plainsC ((cs.drop off).take n) fun vs => κ (σ.put dst (.agg vs)))
        | false => match take with
          | true => match p with
            | true => none
            | false => cellAt cs off fun v => κ ((σ.setB id (.live p (cs.set off v.dem))).put dst v.tk)
          | false => cellKD (sh (dst.getD 0)) cs off fun v => κ (σ.put dst v)
      | some (.fz cs) => match agg with
        | true => chk (off + n ≤ cs.length) (κ (σ.put dst (.agg ((cs.drop off).take n))))
        | false => cellK (sh (dst.getD 0)) cs off fun v => κ (σ.put dst v)
      | _ => none
    | .fp m cs => match agg with
      | true => chk (n ≤ m) (κ (σ.put dst (.agg (cs.take n))))
      | false => cellK (sh (dst.getD 0)) cs 0 fun v => κ (σ.put dst v)
    | _ => none
  | .store n a x => match dst with
    | some _ => none
    | none => match a.get σ with
      | .ptr id off => match σ.b[id]? with
        | some (.live true cs) => match (x.get σ).plain with
          | some v => chk (v.cells.length = n ∧ off + n ≤ cs.length) (lt (setAt cs off v.cells) fun cs' => κ (σ.setB id (.live true cs')))
          | none => none
        | some (.live false cs) => match x.get σ with
          | .agg us => expandC (sh ((x.slot).getD 0)) us fun us => chk (us.length = n ∧ off + n ≤ cs.length) (κ (σ.setB id (.live false (setAt cs off us))))
          | .st us => chk (us.length = n ∧ off + n ≤ cs.length) (κ (σ.setB id (.live false (setAt cs off us))))
          | .tup _ => none
          | .bx _ _ => none
          | .fr _ _ => none
          | .junk => none
          | v => chk (n = 1 ∧ off < cs.length) (κ ((σ.demote x).setB id (.live false (cs.set off v))))
        | _ => none
      | _ => none
  | .append sz bytes s x => match s.get σ with
    | .gs sz1 es => viewC σ.b (x.get σ) fun u => match u with
      | .sl sz2 es2 => chk (sz1 = sz ∧ sz2 = sz) (chk ((es.length + es2.length) * bytes ≤ sizeCap ∧ es.length + es2.length ≤ sizeCap) (match pin with
        | true => match s, es with
          | .const _, [] => onSt (σ.putG nb dst true sz es2) κ
          | _, _ => none
        | false => lt (es ++ es2) fun es' => κ ((σ.demote s).put dst (.gs sz es'))))
      | _ => none
    | .fr sz1 [] => viewC σ.b (x.get σ) fun u => match u with
      | .sl sz2 es2 => chk (sz1 = sz ∧ sz2 = sz) (chk ((0 + es2.length) * bytes ≤ sizeCap ∧ 0 + es2.length ≤ sizeCap) (onSt ((σ.demote s).putG nb dst pin sz es2) κ))
      | _ => none
    | .own id off len sz1 => viewC σ.b (x.get σ) fun u => match u with
      | .sl sz2 es2 => match σ.b[id]? with
        | some (.live true cs) => chk (sz1 = sz ∧ sz2 = sz ∧ off = 0) (chk ((len + es2.length) * bytes ≤ sizeCap ∧ len + es2.length ≤ sizeCap ∧ (len + es2.length ≠ 0 ∨ cs.length = 0)) (lt (cs.take (len * sz) ++ es2.flatten) fun cs' =>
          onSt ((σ.setB id (.dead cs.length)).newB nb dst (.live true cs') (fun id' => .own id' 0 (len + es2.length) sz)) κ))
        | _ => none
      | _ => none
    | _ => none
  | .clear sz zero x => match x.get σ with
    | .own id off len sz1 => match σ.b[id]? with
      | some (.live true cs) => chk (sz1 = sz) (lt (setAt cs off (List.replicate len zero).flatten) fun cs' => κ ((σ.setB id (.live true cs')).put dst (.tup [])))
      | _ => none
    | _ => none
  | .extract x i => match x.get σ with
    | .tup vs => match vs[i]?, x with
      | some v, .tmp t => match vs.all notTup && decide (dst ≠ some t) with
        | true => match v.isHeld with
          | true => putRC nb { σ with t := σ.t.set t (.tup (vs.set i .junk)) } dst pin v κ
          | false => match pin with
            | true => none
            | false => κ (σ.put dst v.dem)
        | false => none
      | _, _ => none
    | _ => none
  | .appendZ sz bytes zero s x => match s.get σ with
    | .gs sz1 es => anyI (x.get σ) fun n => chk (sz1 = sz) (chk (0 ≤ n ∧ (es.length + n.toNat) * bytes ≤ sizeCap ∧ es.length + n.toNat ≤ sizeCap) (match pin with
      | true => none
      | false => lt (es ++ List.replicate n.toNat zero) fun es' => κ ((σ.demote s).put dst (.gs sz es'))))
    | _ => none
  | .mlook kd ok zero x y => match x.get σ with
    | .mp id => match σ.b[id]? with
      | some (.mp es) => mAt kd (y.get σ) es fun r => asc (sh (dst.getD 0)) (r.getD zero) fun v => match ok with
        | true => κ (σ.put dst (.tup [v, .sc (.bool r.isSome)]))
        | false => κ (σ.put dst v)
      | _ => none
    | _ => none
  | .mput kd x y z => match dst with
    | some _ => none
    | none => match x.get σ with
      | .mp id => match σ.b[id]? with
        | some (.mp es) => match (z.get σ).plain with
          | some v => mPut kd (y.get σ) v es fun es' => κ (σ.setB id (.mp es'))
          | none => none
        | _ => none
      | _ => none
  | .call f args xs => match args.mapM (argOf σ) with
    | some vs => doCallC cb nb σ dst pin f vs args xs κ
    | none => none
  | .callv f args xs => match f.get σ with
    | .fn g caps => match args.mapM (argOf σ) with
      | some vs => doCallC cb nb σ dst pin g (vs ++ caps) args xs κ
      | none => none
    | _ => none
  | k => onSt (stepK (fun _ _ _ => none) nb σ dst pin k) κ
/-- one operation: the state as it is known behind the guard, and the state after it -/
def stepOpC (sh : Nat → Sh) (cb : CBC) (nb : Nat) (σ : St) (o : COp) (κ : St → St → Option β) : Option β :=
  match o.guard with
  | none => stepC sh cb nb σ o.dst o.pin o.k (κ σ)
  | some (j, want) => match σ.t[j]? with
    | some (.sc (.bool b)) => match want with
      | true => ifb b (lt { σ with t := σ.t.set j (.sc (.bool true)) } fun σ => stepC sh cb nb σ o.dst o.pin o.k (κ σ)) (lt { σ with t := σ.t.set j (.sc (.bool false)) } fun σ => κ σ (σ.put o.dst (.tup [])))
      | false => ifb b (lt { σ with t := σ.t.set j (.sc (.bool true)) } fun σ => κ σ (σ.put o.dst (.tup []))) (lt { σ with t := σ.t.set j (.sc (.bool false)) } fun σ => stepC sh cb nb σ o.dst o.pin o.k (κ σ))
    | some (.tup []) => κ σ (σ.put o.dst (.tup []))
    | _ => none
def stepOpsC (sh : Nat → Sh) (cb : CBC) (nb : Nat) : List COp → St → (St → Option β) → Option β
  | [], σ, κ => κ σ
  | o :: rest, σ, κ => stepOpC sh cb nb σ o fun _ σ' => stepOpsC sh cb nb rest σ' κ
def stepDC (sh : Nat → Sh) (cb : CBC) (nb : Nat) : List (COp × Fl) → St → (St → Option β) → Option β
  | [], σ, κ => κ σ
  | (o, q) :: rest, σ, κ => stepOpC sh cb nb σ o fun σr σ' => match flOk nb σr o q σ' with
    | true => stepDC sh cb nb rest σ' κ
    | false => none
/-! code -/
abbrev KT (β : Type) := Ex → St → Option β
def seqK (rb : St → KT β → Option β) (K : KT β) : KT β := fun ex σ => match ex with
  | .normal => rb σ K
  | .exit j => K (.exit j) σ
  | .ret => K .ret σ
def blockK (id : Nat) (K : KT β) : KT β := fun ex σ => match ex with
  | .normal => K .normal σ
  | .exit j => match Nat.beq j id with
    | true => K .normal σ
    | false => K (.exit j) σ
  | .ret => K .ret σ
def loopK (norm : St → St) (X : St → Option β) (K : KT β) : KT β := fun ex σ => match ex with
  | .normal => X (norm σ)
  | .exit j => K (.exit j) σ
  | .ret => K .ret σ
def loopM (body : St → KT β → Option β) (norm : St → St) : Nat → St → KT β → Option β
  | 0, _, _ => none
  | n + 1, σ, K => body σ (loopK norm (fun σ => loopM body norm n σ K) K)
def onR (o : Option (Ex × St)) (K : KT β) : Option β := match o with
  | some (ex, σ) => K ex σ
  | none => none
def runC (sh : Nat → Sh) (cb : CBC) (nb : Nat) (L : Nat) : CC → St → KT β → Option β
  | .skip, σ, K => K .normal σ
  | .reg ops, σ, K => stepOpsC sh cb nb ops σ (K .normal)
  | .dreg fz ops, σ, K => fzAllC nb fz σ fun σ => stepDC sh cb nb ops σ (K .normal)
  | .seq a b, σ, K => runC sh cb nb L a σ (seqK (runC sh cb nb L b) K)
  | .fork p c a b, σ, K => runC sh cb nb L p σ (seqK (fun σ K => match c.get σ with
    | .ub => match sameX (run (fun _ _ _ => none) nb L a σ) (run (fun _ _ _ => none) nb L b σ) with
      | true => onR (run (fun _ _ _ => none) nb L b σ) K
      | false => none
    | v => aB v fun t => ifb t (runC sh cb nb L a σ (seqK (runC sh cb nb L b) K)) (runC sh cb nb L b σ K)) K)
  | .cond c a b, σ, K => match c.get σ with
    | .ub => match sameR (run (fun _ _ _ => none) nb L a σ) (run (fun _ _ _ => none) nb L b σ) with
      | true => onR (run (fun _ _ _ => none) nb L b σ) K
      | false => none
    | v => aB v fun t => ifb t (runC sh cb nb L a σ K) (runC sh cb nb L b σ K)
  | .block id a, σ, K => runC sh cb nb L a σ (blockK id K)
  | .loop kt kb a, σ, K => loopM (runC sh cb nb L a) (maskN nb kt kb) L (maskN nb kt kb σ) K
  | .mask kt kb, σ, K => K .normal (maskN nb kt kb σ)
  | .exit id, σ, K => K (.exit id) σ
  | .ret, σ, K => K .ret σ
/-! results -/
def resOneC (nb : Nat) (σ : St) (r : RV) (k : V → Option β) : Option β := match r with
  | .tmp t => match σ.t.getD t .junk with
    | .own id off len sz => match decide (nb ≤ id) with
      | true => match σ.b[id]? with
        | some (.live true cs) => match decide (off = 0 ∧ 0 < sz) with
          | true => chk (len ≠ 0 ∨ cs.length = 0) (k (.fr sz (chunks sz len cs)))
          | false => none
        | _ => none
      | false => k (.own id off len sz)
    | .ptr id off => match σ.b[id]? with
      | some (.live p cs) => match decide (off = 0 ∧ nb ≤ id) with
        | true => chk (cs.length ≠ 0) (match p with
          | true => k (.bx p cs)
          | false => plainsC cs fun cs => k (.bx false cs))
        | false => none
      | _ => none
    | _ => match resOne nb σ (.tmp t) with
      | some v => k v
      | none => none
  | .tmpP t => match σ.t.getD t .junk with
    | .own id off len sz => match decide (nb ≤ id ∧ off = 0 ∧ 0 < sz) with
      | true => match σ.b[id]? with
        | some (.live true cs) => k (.gs sz (chunks sz len cs))
        | _ => none
      | false => none
    | _ => match resOne nb σ (.tmpP t) with
      | some v => k v
      | none => none
  | .cell t agg n => match σ.t.getD t .junk with
    | .ptr id off => match σ.b[id]? with
      | some (.live p cs) => match agg with
        | true => chk (off = 0 ∧ cs.length = n ∧ n ≠ 0) (match p with
          | true => k (.agg cs)
          | false => plainsC cs fun cs => k (.agg cs))
        | false => match decide (n = 1 ∧ off = 0) with
          | true => cellAt cs 0 fun v => match v.plain with
            | some v => k v
            | none => none
          | false => none
      | _ => none
    | _ => none
def resManyC (nb : Nat) (σ : St) : List RV → (List V → Option β) → Option β
  | [], k => k []
  | r :: rs, k => resOneC nb σ r fun v => resManyC nb σ rs fun vs => k (v :: vs)
def resultsC (nb : Nat) (σ : St) (rs : List RV) (k : V → Option β) : Option β :=
  match resDistinct rs && nodupB (oneRef nb σ rs) with
  | true => match rs with
    | [r] => resOneC nb σ r k
    | rs => resManyC nb σ rs fun vs => k (.tup vs)
  | false => none
def borC (b : List B) (nb : Nat) (ids : List Nat) : List Nat → (Bor → Option β) → Option β
  | [], k => k []
  | id :: rest, k => match b[id]? with
    | some (.live p cs) => match p with
      | true => borC b nb ids rest fun l => k (.live true cs :: l)
      | false => match decide (id < nb) with
        | true => chk (cs.all (lendable ids) = true) (borC b nb ids rest fun l => k (.live false (cs.map (renV (idxIn ids))) :: l))
        | false => none
    | some (.mp es) => match decide (id < nb) with
      | true => borC b nb ids rest fun l => k (.mp es :: l)
      | false => none
    | some (.dead n) => match decide (id < nb) with
      | true => borC b nb ids rest fun l => k (.dead n :: l)
      | false => none
    | _ => none
def finK (nb : Nat) (rs : List RV) (k : V → Bor → Option β) : KT β := fun ex σ => match ex with
  | .exit _ => none
  | _ => resultsC nb σ rs fun r => borC σ.b nb (outIds nb r) (outIds nb r) fun b => match nodupB (outIds nb r) with
    | true => k (renR (idxIn (outIds nb r)) r) b
    | false => none
def lc {α β : Type} (l : List α) (a : Option β) (b : α → List α → Option β) : Option β := match l with
  | [] => a
  | x :: xs => b x xs
def hasFork : CC → Bool
  | .fork _ _ _ _ => true
  | .seq a b => hasFork a || hasFork b
  | _ => false
def funC0 (sh : Nat → Sh) (cb : CBC) (L : Nat) (c : CF) (args : List V) (bor : Bor) (k : V → Bor → Option β) : Option β :=
  runC sh cb bor.length L c.body (enter c.ntmps args bor) (finK bor.length c.res k)
/-- a function that asks whether its first argument is nil is looked at for an empty one by itself -/
def funC (sh : Nat → Sh) (cb : CBC) (L : Nat) (c : CF) (args : List V) (bor : Bor) (k : V → Bor → Option β) : Option β :=
  match hasFork c.body, args with
  | true, .sl sz es :: rest => lc es (funC0 sh cb L c (.sl sz [] :: rest) bor k) (fun x xs => funC0 sh cb L c (.sl sz (x :: xs) :: rest) bor k)
  | _, args => funC0 sh cb L c args bor k
end
/-- a list of truths, from the bits of a number -/
def blFrom (x : Nat) : Nat → Nat → List Bool
  | 0, _ => []
  | n + 1, i => x.testBit i :: blFrom x n (i + 1)
def bl (x n : Nat) : List Bool := blFrom x n 0
def shOf : List (Nat × Sh) → Nat → Sh
  | [], _ => .any
  | (m, s) :: r, n => match Nat.beq m n with
    | true => s
    | false => shOf r n
/-! which form of a function is meant -/
def tagV : V → Nat
  | .sc (.int _ _) => 1
  | .sc (.bool _) => 2
  | .sc _ => 3
  | .agg _ => 4
  | .tup _ => 5
  | .sl _ _ => 6
  | .gs _ _ => 7
  | .own _ _ _ _ => 8
  | .ptr _ _ => 9
  | .fp _ _ => 10
  | .fn f _ => 100 + f
  | .mp _ => 12
  | .st _ => 13
  | _ => 11
def tagsV : V → List Nat
  | .st cs => 13 :: cs.map tagV
  | v => [tagV v]
def tagBor : Bor → List Nat
  | [] => []
  | .live true _ :: r => 20 :: tagBor r
  | .live false cs :: r => 21 :: (cs.map tagV ++ tagBor r)
  | .mp _ :: r => 22 :: tagBor r
  | _ :: r => 23 :: tagBor r
def eqNats : List Nat → List Nat → Bool
  | [], [] => true
  | a :: l, b :: m => Nat.beq a b && eqNats l m
  | _, _ => false
def addT (g : Nat) (tags : List Nat) (d : ∀ (β : Type), List V → Bor → (V → Bor → Option β) → Option β) (c : CBC) : CBC := fun β f args bor k => match Nat.beq f g && eqNats tags (args.flatMap tagsV ++ tagBor bor) with
  | true => d β args bor k
  | false => c β f args bor k
def noC : CBC := fun _ _ _ _ _ => none
def addC (g : Nat) (d : ∀ (β : Type), List V → Bor → (V → Bor → Option β) → Option β) (c : CBC) : CBC := fun β f args bor k => match Nat.beq f g with
  | true => d β args bor k
  | false => c β f args bor k
end Go.Proofs.Ythplooifbkopgaa
