/- An abstract machine over plain values: slices are lists, structs are lists of cells; local variables behind an address lie in blocks. Nothing of the program is in here. -/
import Derived.WalkKit
import Derived.WalkSpells
import Derived.WalkLawsBesides
import Derived.Orders
import Derived.Lib.BytesEntry
namespace Go.Proofs.Ythplooifbkopgaa

/-- abstract values -/
inductive V where
  | sc (v : Value)
  | agg (cs : List V)
  | tup (vs : List V)
  | sl (sz : Nat) (es : List (List V))
  | gs (sz : Nat) (es : List (List V))
  | own (id off len sz : Nat)
  | ptr (id off : Nat)
  | fp (n : Nat) (cs : List V)
  | fn (f : Nat) (caps : List V)
  | bx (p : Bool) (cs : List V)
  | fr (sz : Nat) (es : List (List V))
  | ub
  | mp (id : Nat)
  | st (cs : List V)
  | junk
  deriving Inhabited

/-- a block of local memory: 'p': its cells are plain (no address of local memory, no growing slice) -/
inductive B where
  | gone
  | live (p : Bool) (cs : List V)
  | fz (cs : List V)
  | mp (es : List (V × V))
  | dead (n : Nat)
  deriving Inhabited

structure St where
  t : List V
  b : List B

inductive Src where
  | tmp (t : Nat)
  | const (v : V)

inductive K where
  | move (x : Src) (take : Bool)
  | pick (c a b : Src)
  | alloc (p : Bool) (cs : List V)
  | box (p : Bool) (x : Src)
  | build (zero : List V) (parts : List (Nat × Nat × Src))
  | buildSt (zero : List V) (parts : List (Nat × Nat × Src))
  | nilS (sz id : Nat)
  | buildSlice (sz n : Nat) (zero : List V) (parts : List (Nat × Nat × Src))
  | load (agg : Bool) (n : Nat) (a : Src) (take : Bool)
  | store (n : Nat) (a x : Src)
  | nilCheck (x : Src)
  | bin (op : BinOp) (x y : Src)
  | eqAgg (neg : Bool) (n : Nat) (x y : Src)
  | eqB (neg : Bool) (x y : Src)
  | nilT (neg : Bool) (x : Src)
  | un (op : UnOp) (x : Src)
  | conv (k : IntKind) (x : Src)
  | toStr (x : Src)
  | cmpB (x y : Src)
  | makeSlice (sz bytes : Nat) (zero : List V) (l c : Src)
  | sliceA (n sz : Nat) (x : Src) (lo hi mx : Option Src)
  | sliceS (sz : Nat) (x : Src) (lo hi mx : Option Src)
  | fieldAddr (off : Nat) (x : Src)
  | field (agg : Bool) (off n : Nat) (x : Src)
  | indexAddrA (len sz : Nat) (x i : Src)
  | indexAddrS (sz : Nat) (x i : Src)
  | indexA (agg : Bool) (len sz : Nat) (x i : Src)
  | lenS (x : Src)
  | lenT (x : Src)
  | lenA (n : Nat)
  | append (sz bytes : Nat) (s x : Src)
  | appendZ (sz bytes : Nat) (zero : List V) (s x : Src)
  | copy (sz : Nat) (d s : Src)
  | clear (sz : Nat) (zero : List V) (x : Src)
  | mm (isMax : Bool) (x y : Src)
  | extract (x : Src) (i : Nat)
  | pull (x : Src) (i : Nat)
  | call (f : Nat) (args : List (Src × Nat)) (xs : List Nat)
  | callv (f : Src) (args : List (Src × Nat)) (xs : List Nat)
  | makeFunc (f : Nat) (caps : List Src)
  | makeMap
  | mlook (kd : Nat) (ok : Bool) (zero : V) (x k : Src)
  | mput (kd : Nat) (x k v : Src)
  | lenM (x : Src)

/-- an operation: the slot that it writes, whether what it makes is to lie in local memory ('pin'), its guard, what it does -/
structure COp where
  dst : Option Nat
  pin : Bool
  guard : Option (Nat × Bool)
  k : K

/-- what must hold where an operation of a drawn region runs: 's': it looks at slots alone, and nothing else is asked; 'q': it leaves memory alone; 'root': it loads from the block whose address this slot holds; 'w': it does not touch the blocks whose addresses these slots hold -/
structure Fl where
  q : Bool
  root : Option Nat
  w : List Nat
  s : Bool
def q0 : Fl := ⟨false, none, [], false⟩
def q1 : Fl := ⟨true, none, [], false⟩
def q2 : Fl := ⟨false, none, [], true⟩
inductive CC where
  | skip
  | reg (ops : List COp)
  | dreg (fz : List Nat) (ops : List (COp × Fl))
  | seq (a b : CC)
  | fork (p : CC) (c : Src) (a b : CC)
  | cond (c : Src) (a b : CC)
  | block (id : Nat) (a : CC)
  | loop (keepT keepB : List Bool) (a : CC)
  | mask (keepT keepB : List Bool)
  | exit (id : Nat)
  | ret

inductive RV where
  | tmp (t : Nat)
  | tmpP (t : Nat)
  | cell (t : Nat) (agg : Bool) (n : Nat)

structure CF where
  ntmps : Nat
  res : List RV
  body : CC

inductive Ex where
  | normal
  | exit (id : Nat)
  | ret

/-! ### Small words -/
def V.dem : V → V
  | .gs sz es => .sl sz es
  | .tup [] => .tup []
  | .tup _ => .junk
  | .bx _ _ => .junk
  | .fr _ _ => .junk
  | v => v
/-- what is taken out of a slot: a growing slice goes on growing at its new place -/
def V.tk : V → V
  | .gs sz es => .gs sz es
  | v => v.dem
def V.mv : V → V
  | .tup vs => .tup vs
  | v => v.tk
def V.isHeld : V → Bool
  | .gs _ _ | .fr _ _ | .bx _ _ => true
  | _ => false
def notTup : V → Bool
  | .tup _ => false
  | _ => true
def V.cells : V → List V
  | .agg cs => cs
  | v => [v]
def chunks (sz : Nat) : Nat → List V → List (List V)
  | 0, _ => []
  | n + 1, cs => cs.take sz :: chunks sz n (cs.drop sz)
/-- a plain value: what may lie in a cell of another slice, or go out of the function -/
def V.plain : V → Option V
  | .sc v => some (.sc v)
  | .agg cs => some (.agg cs)
  | .sl sz es => some (.sl sz es)
  | .gs sz es => some (.sl sz es)
  | .fn f [] => some (.fn f [])
  | _ => none
/-- a cell of a struct that holds slices of local memory -/
def V.refd : V → Option V
  | .own id off len sz => some (.own id off len sz)
  | v => v.plain
def ownId : V → Option Nat
  | .own id _ _ _ => some id
  | _ => none
def isPtr : V → Bool
  | .ptr _ _ => true
  | _ => false
def V.int? : V → Option Int
  | .sc (.int _ n) => some n
  | _ => none
def V.bool? : V → Option Bool
  | .sc (.bool b) => some b
  | _ => none
def B.cs? : B → Option (List V)
  | .live true cs => some cs
  | .fz cs => some cs
  | _ => none
def Src.get (σ : St) : Src → V
  | .tmp t => σ.t.getD t .junk
  | .const v => v
def Src.slot : Src → Option Nat
  | .tmp t => some t
  | .const _ => none
/-- what a slice holds, as a slice of memory that stays -/
def view (b : List B) : V → Option V
  | .own id off len sz => do
    let cs ← ((b[id]?).getD .gone).cs?
    pure (.sl sz (chunks sz len (cs.drop off)))
  | .gs sz es => some (.sl sz es)
  | v => some v
def setAt (cs : List V) (off : Nat) (new : List V) : List V := cs.take off ++ new ++ cs.drop (off + new.length)
def fillParts (σ : St) : List (Nat × Nat × Src) → List V → Option (List V)
  | [], cs => some cs
  | (off, n, x) :: rest, cs => do
    let v ← (x.get σ).plain
    if v.cells.length = n ∧ off + n ≤ cs.length then fillParts σ rest (setAt cs off v.cells) else none
def fillRefs (σ : St) : List (Nat × Nat × Src) → List V → Option (List V)
  | [], cs => some cs
  | (off, n, x) :: rest, cs => do
    let v ← (x.get σ).refd
    if v.cells.length = n ∧ off + n ≤ cs.length then fillRefs σ rest (setAt cs off v.cells) else none
def binSc (op : BinOp) (x y : Value) : Option Value :=
  match op, x, y with
  | .shl, .int k a, .int _ b => if b < 0 then none else some (.int k (k.wrap (a * 2 ^ (min b.toNat k.bits))))
  | .shr, .int k a, .int _ b => if b < 0 then none else some (.int k (a.fdiv (2 ^ (min b.toNat k.bits))))
  | op, .int k a, .int k' b =>
    if k ≠ k' then none else
    match op with
    | .add => some (.int k (k.wrap (a + b)))
    | .sub => some (.int k (k.wrap (a - b)))
    | .mul => some (.int k (k.wrap (a * b)))
    | .quo => if b = 0 then none else some (.int k (k.wrap (a.tdiv b)))
    | .rem => if b = 0 then none else some (.int k (a.tmod b))
    | .and => some (.int k (k.wrap (BitVec.ofInt k.bits a &&& BitVec.ofInt k.bits b).toNat))
    | .or => some (.int k (k.wrap (BitVec.ofInt k.bits a ||| BitVec.ofInt k.bits b).toNat))
    | .xor => some (.int k (k.wrap (BitVec.ofInt k.bits a ^^^ BitVec.ofInt k.bits b).toNat))
    | .andNot => some (.int k (k.wrap (BitVec.ofInt k.bits a &&& ~~~ BitVec.ofInt k.bits b).toNat))
    | .eql => some (.bool (a == b))
    | .neq => some (.bool (a != b))
    | .lss => some (.bool (decide (a < b)))
    | .leq => some (.bool (decide (a ≤ b)))
    | .gtr => some (.bool (decide (a > b)))
    | .geq => some (.bool (decide (a ≥ b)))
    | _ => none
  | .eql, .string a, .string b => some (.bool (a.toList == b.toList))
  | .neq, .string a, .string b => some (.bool (!(a.toList == b.toList)))
  | _, _, _ => none
def unSc (op : UnOp) (x : Value) : Option Value :=
  match op, x with
  | .neg, .int k n => some (.int k (k.wrap (0 - n)))
  | .not, .bool b => some (.bool !b)
  | .xor, .int k n => some (.int k (k.wrap (BitVec.ofInt k.bits (if k.signed then -1 else k.max) ^^^ BitVec.ofInt k.bits n).toNat))
  | _, _ => none
/-- two rows of numbers, cell by cell -/
def eqCells : List V → List V → Option Bool
  | [], [] => some true
  | .sc (.int k a) :: xs, .sc (.int k' b) :: ys => if k = k' then (eqCells xs ys).map (fun r => (a == b) && r) else none
  | _, _ => none
/-- two keys of a map -/
def keyEq : V → V → Option Bool
  | .agg a, .agg b => if a.length = b.length then eqCells a b else none
  | .sc (.int k a), .sc (.int k' b) => if k = k' then some (a == b) else none
  | .sc (.string a), .sc (.string b) => some (a == b)
  | _, _ => none
/-- a key of the kind 'kd': 0 a number, 1 a string, n + 2 an array or a struct of n cells -/
def keyOk : Nat → V → Bool
  | 0, .sc (.int _ _) => true
  | 1, .sc (.string _) => true
  | n + 2, .agg cs => cs.length == n
  | _, _ => false
/-- where a key stands -/
def mfind (key : V) : List (V × V) → Option (Option V)
  | [] => some none
  | (k, v) :: es => match keyEq key k with
    | some true => some (some v)
    | some false => mfind key es
    | none => none
def mset (key val : V) : List (V × V) → Option (List (V × V))
  | [] => some [(key, val)]
  | (k, v) :: es => match keyEq key k with
    | some true => some ((key, val) :: es)
    | some false => (mset key val es).map ((k, v) :: ·)
    | none => none
def toBytes : List (List V) → Option (List UInt8)
  | [] => some []
  | [.sc (.int .u8 n)] :: es => (toBytes es).map (UInt8.ofNat n.toNat :: ·)
  | _ => none
def bound (σ : St) (x : Option Src) (dflt : Nat) (most : Nat) : Option Nat :=
  match x with
  | none => some dflt
  | some s => match (s.get σ).int? with
    | some i => if 0 ≤ i ∧ i ≤ most then some i.toNat else none
    | none => none
/-- low, high, max of a slice expression within 'len' -/
def bounds (σ : St) (len : Nat) (lo hi mx : Option Src) : Option (Nat × Nat × Nat) := do
  let m ← bound σ mx len len
  let h ← bound σ hi len m
  let l ← bound σ lo 0 h
  pure (l, h, m)

def sizeCap : Nat := 140737488355328

/-- operations that neither change memory nor make any: the value -/
def pureK (σ : St) : K → Option V
  | .pick c a b => do
    let t ← (c.get σ).bool?
    pure (if t then (a.get σ).dem else (b.get σ).dem)
  | .build zero parts => do pure (.agg (← fillParts σ parts zero))
  | .buildSt zero parts => do pure (.st (← fillRefs σ parts zero))
  | .nilCheck x => match (x.get σ) with
    | .ptr id off => some (.ptr id off)
    | .fp n cs => some (.fp n cs)
    | .fn f caps => some (.fn f caps)
    | _ => none
  | .bin op x y => match x.get σ, y.get σ with
    | .sc a, .sc b => (binSc op a b).map .sc
    | _, _ => none
  | .eqAgg neg n x y => match x.get σ, y.get σ with
    | .agg a, .agg b => if a.length = n ∧ b.length = n then (eqCells a b).map (fun r => .sc (.bool (if neg then !r else r))) else none
    | _, _ => none
  | .eqB neg x y => match (x.get σ).bool?, (y.get σ).bool? with
    | some a, some b => some (.sc (.bool (if neg then !(a == b) else (a == b))))
    | _, _ => none
  | .nilT neg x => match (x.get σ).dem with
    | .sl _ es => some (if es.isEmpty then .ub else .sc (.bool neg))
    | _ => none
  | .un op x => match x.get σ with
    | .sc a => (unSc op a).map .sc
    | _ => none
  | .conv k x => match (x.get σ).int? with
    | some n => some (.sc (.int k (k.wrap n)))
    | none => none
  | .toStr x => match view σ.b (x.get σ) with
    | some (.sl 1 es) => (toBytes es).map (fun l => .sc (.string ⟨l.toArray⟩))
    | _ => none
  | .cmpB x y => match view σ.b (x.get σ), view σ.b (y.get σ) with
    | some (.sl 1 es), some (.sl 1 fs) => match toBytes es, toBytes fs with
      | some a, some b => some (.sc (.int .i64 (Lib.compareBytes a b)))
      | _, _ => none
    | _, _ => none
  | .sliceA n sz x lo hi mx => do
    let (l, h, m) ← bounds σ n lo hi mx
    match x.get σ with
    | .ptr id off => match σ.b[id]? with
      | some (.live _ cs) => if off + n * sz ≤ cs.length then some (if m = l then .gs sz [] else .own id (off + l * sz) (h - l) sz) else none
      | some (.fz cs) => if off + n * sz ≤ cs.length then some (if m = l then .gs sz [] else .own id (off + l * sz) (h - l) sz) else none
      | _ => none
    | .fp q cs => if n * sz ≤ q then some (.sl sz (chunks sz (h - l) (cs.drop (l * sz)))) else none
    | _ => none
  | .sliceS sz x lo hi mx => match (x.get σ).dem with
    | .sl sz' es => do
      let (l, h, m) ← bounds σ es.length lo hi mx
      if sz = sz' then some (if mx.isSome ∧ m = l then .fr sz [] else .sl sz ((es.drop l).take (h - l))) else none
    | .own id off len sz' => do
      let (l, h, m) ← bounds σ len lo hi mx
      if sz = sz' then some (if mx.isSome then (if m = l then .fr sz [] else .junk) else .own id (off + l * sz) (h - l) sz) else none
    | _ => none
  | .fieldAddr o x => match x.get σ with
    | .ptr id off => some (.ptr id (off + o))
    | .fp n cs => if o ≤ n then some (.fp (n - o) (cs.drop o)) else none
    | _ => none
  | .field agg o n x => match x.get σ with
    | .agg cs => if agg then some (.agg ((cs.drop o).take n)) else cs[o]?
    | .st cs => if agg then none else cs[o]?
    | _ => none
  | .indexAddrA len sz x i => match (i.get σ).int? with
    | some j => if 0 ≤ j ∧ j < len then
        match x.get σ with
        | .ptr id off => some (.ptr id (off + j.toNat * sz))
        | .fp n cs => if len * sz ≤ n then some (.fp (n - j.toNat * sz) (cs.drop (j.toNat * sz))) else none
        | _ => none
      else none
    | none => none
  | .indexAddrS sz x i => match (i.get σ).int? with
    | some j => if 0 ≤ j then
        match (x.get σ).dem with
        | .sl sz' es => if sz = sz' then (es[j.toNat]?).map (fun c => .fp sz c) else none
        | .own id off len sz' => if sz = sz' ∧ j < len then some (.ptr id (off + j.toNat * sz)) else none
        | _ => none
      else none
    | none => none
  | .indexA agg len sz x i => match (i.get σ).int? with
    | some j => if 0 ≤ j ∧ j < len then
        match x.get σ with
        | .agg cs => if agg then some (.agg ((cs.drop (j.toNat * sz)).take sz)) else cs[j.toNat * sz]?
        | _ => none
      else none
    | none => none
  | .lenS x => match (x.get σ).dem with
    | .sl _ es => some (.sc (.int .i64 es.length))
    | .own _ _ len _ => some (.sc (.int .i64 len))
    | _ => none
  | .lenT x => match x.get σ with
    | .sc (.string s) => some (.sc (.int .i64 s.size))
    | _ => none
  | .lenA n => some (.sc (.int .i64 n))
  | .mm isMax x y => match x.get σ, y.get σ with
    | .sc (.int k a), .sc (.int _ b) => some (.sc (.int k (if isMax then (if b > a then b else a) else (if b < a then b else a))))
    | _, _ => none
  | .pull x i => match x.get σ with
    | .tup vs => match vs[i]? with
      | some v => if v.isHeld then none else some v.dem
      | none => none
    | _ => none
  | .makeFunc f caps => if caps.all (fun c => isPtr (c.get σ)) then some (.fn f (caps.map (fun c => c.get σ))) else none
  | _ => none

/-- the slot 's' keeps a copy that does not grow any more -/
def St.demote (σ : St) (s : Src) : St :=
  match s with
  | .tmp t => { σ with t := σ.t.modify t V.dem }
  | .const _ => σ
def St.put (σ : St) (dst : Option Nat) (v : V) : St :=
  match dst with
  | some d => { σ with t := σ.t.set d v }
  | none => σ
def St.setB (σ : St) (id : Nat) (x : B) : St := { σ with b := σ.b.set id x }

/-- a new block, named by the slot that holds its address -/
def St.newB (nb : Nat) (σ : St) (dst : Option Nat) (x : B) (v : Nat → V) : Option St :=
  match dst with
  | some d => match σ.b[nb + d]? with
    | some .gone => some ((σ.setB (nb + d) x).put dst (v (nb + d)))
    | _ => none
  | none => none
/-- a growing slice that is put into slot 'dst'; with 'pin' it becomes a block of local memory -/
def St.putG (nb : Nat) (σ : St) (dst : Option Nat) (pin : Bool) (sz : Nat) (es : List (List V)) : Option St :=
  if pin then σ.newB nb dst (.live true es.flatten) (fun id => .own id 0 es.length sz)
  else some (σ.put dst (.gs sz es))

/-- what a call gets: plain values; addresses of local memory are kept for 'lend' -/
def lendOf (mode : Nat) (v : V) : Option V :=
  if 2 ≤ mode then match v with
    | .own id off len sz => some (.own id off len sz)
    | .st cs => some (.st cs)
    | _ => none
  else none
def argOf (σ : St) (s : Src × Nat) : Option V :=
  match lendOf s.2 (s.1.get σ) with
  | some v => some v
  | none => match view σ.b (s.1.get σ) with
    | some (.ptr id off) => some (.ptr id off)
    | some (.fp n cs) => some (.fp n cs)
    | some (.fn f caps) => some (.fn f caps)
    | some (.mp id) => some (.mp id)
    | some (.agg cs) => some (.agg (if s.2 % 2 = 1 then cs.map V.dem else cs))
    | some v => v.plain
    | none => none
def freeze (b : List B) (id : Nat) : List B :=
  match b[id]? with
  | some (.live true (c :: cs)) => b.set id (.fz (c :: cs))
  | _ => b
def frozenBy (σ : St) : List (Src × Nat) → List B → List B
  | [], b => b
  | s :: rest, b => frozenBy σ rest (if 2 ≤ s.2 then b else match ownId (s.1.get σ) with | some id => freeze b id | none => b)
def refsOf : V → List Nat
  | .ptr id _ => [id]
  | .own id _ _ _ => [id]
  | .st cs => cs.filterMap ownId
  | .mp id => [id]
  | .fn _ caps => caps.filterMap (fun | .ptr id _ => some id | _ => none)
  | _ => []
def refsIn (b : List B) (id : Nat) : List Nat :=
  match b[id]? with
  | some (.live false cs) => cs.flatMap refsOf
  | _ => []
/-- the blocks that are lent with these values, each once, in the order in which they are met -/
def closure (b : List B) : Nat → List Nat → List Nat → List Nat
  | 0, _, acc => acc
  | _, [], acc => acc
  | n + 1, id :: todo, acc => if acc.contains id then closure b n todo acc else closure b n (todo ++ refsIn b id) (acc ++ [id])
def lentIds (b : List B) (args : List V) : List Nat := closure b 40 (args.flatMap refsOf) []
def idxIn (ids : List Nat) (id : Nat) : Nat := ids.idxOf id
def renRef (g : Nat → Nat) : V → V
  | .ptr id off => .ptr (g id) off
  | v => v
def renOwn (g : Nat → Nat) : V → V
  | .own id off len sz => .own (g id) off len sz
  | v => v
def renV (g : Nat → Nat) : V → V
  | .ptr id off => .ptr (g id) off
  | .own id off len sz => .own (g id) off len sz
  | .st cs => .st (cs.map (renOwn g))
  | .mp id => .mp (g id)
  | .fn f caps => .fn f (caps.map (renRef g))
  | v => v
/-- what a cell of a block that is lent may hold: addresses only of blocks that are lent too -/
def lendable (ids : List Nat) : V → Bool
  | .sc _ | .sl _ _ | .gs _ _ | .fp _ _ | .junk => true
  | .ptr id _ => ids.contains id
  | .own id _ _ _ => ids.contains id
  | .mp id => ids.contains id
  | .fn _ caps => caps.all (fun | .ptr id _ => ids.contains id | _ => false)
  | _ => false
abbrev Bor := List B
def B.len : B → Nat
  | .live _ cs => cs.length
  | .dead n => n
  | _ => 0
/-- a block that may be lent or given back -/
def B.lend (ids : List Nat) : B → Bool
  | .live p cs => p || cs.all (lendable ids)
  | .mp _ => true
  | .dead _ => true
  | _ => false
def B.isRow : B → Bool
  | .live true _ => true
  | _ => false
def B.isMp : B → Bool
  | .mp _ => true
  | _ => false
def sameKind : Bor → Bor → Bool
  | [], [] => true
  | a :: l, b :: m => (a.isMp == b.isMp) && sameKind l m
  | _, _ => false
def B.ren (g : Nat → Nat) : B → B
  | .live p cs => .live p (if p then cs else cs.map (renV g))
  | x => x
/-- the blocks 'ids' as they are lent -/
def lendAll (b : List B) (ids : List Nat) : List Nat → Option Bor
  | [] => some []
  | id :: rest => do
    match b[id]? with
    | some (.live true cs) => pure (.live true cs :: (← lendAll b ids rest))
    | some (.live false cs) => if cs.all (lendable ids) then pure (.live false (cs.map (renV (idxIn ids))) :: (← lendAll b ids rest)) else none
    | some (.mp es) => pure (.mp es :: (← lendAll b ids rest))
    | _ => none
def giveBack (g : Nat → Nat) : List Nat → Bor → List B → List B
  | id :: ids, x :: bor, b => giveBack g ids bor (b.set id (x.ren g))
  | _, _, b => b
/-- what comes back of a call, put into a slot -/
def St.putR (nb : Nat) (σ : St) (dst : Option Nat) (pin : Bool) (v : V) : Option St :=
  match v with
  | .gs sz es => if pin then none else some (σ.put dst (.gs sz es))
  | .fr sz es => σ.putG nb dst pin sz es
  | .bx p cs => σ.newB nb dst (.live p cs) (fun id => .ptr id 0)
  | v => some (σ.put dst v)
def noRef1 : V → Bool
  | .ptr _ _ | .tup _ | .mp _ => false
  | .fn _ caps => caps.isEmpty
  | _ => true
/-- a result that holds no address of memory that was lent, but slices of it -/
def noRef : V → Bool
  | .tup vs => vs.all noRef1
  | v => noRef1 v
/-- the blocks that a result names -/
def refsR : V → List Nat
  | .tup vs => vs.flatMap refsOf
  | v => refsOf v
def renR (g : Nat → Nat) : V → V
  | .tup vs => .tup (vs.map (renV g))
  | v => renV g v
def freeIds (b : List B) (nb : Nat) : List Nat → Bool
  | [] => true
  | x :: xs => !(xs.contains x) && (match b[nb + x]? with | some .gone => true | _ => false) && freeIds b nb xs
abbrev CB := Nat → List V → Bor → Option (V × Bor)
def doCall (cb : CB) (nb : Nat) (σ : St) (dst : Option Nat) (pin : Bool) (f : Nat) (args : List V) (srcs : List (Src × Nat)) (xs : List Nat) : Option St := do
  let σ1 : St := { σ with b := frozenBy σ srcs σ.b }
  let ids := lentIds σ1.b args
  let bor ← lendAll σ1.b ids ids
  let (r, bor') ← cb f (args.map (renV (idxIn ids))) bor
  let ids' := ids ++ (xs.map (nb + ·)).take (bor'.length - ids.length)
  if (bor'.take ids.length).map B.len = bor.map B.len ∧ bor'.length = ids'.length ∧ args.all (fun a => (refsOf a).all ids.contains) ∧ noRef r ∧ (refsR r).all (fun k => decide (k < ids'.length)) ∧ bor'.all (B.lend (List.range ids'.length)) ∧ sameKind (bor'.take ids.length) bor ∧ (bor'.drop ids.length).all B.isRow ∧ freeIds σ1.b nb xs then
    St.putR nb { σ1 with b := giveBack (fun k => ids'.getD k 0) ids' bor' σ1.b } dst pin (renR (fun k => ids'.getD k 0) r)
  else none

/-- one operation -/
def stepK (cb : CB) (nb : Nat) (σ : St) (dst : Option Nat) (pin : Bool) : K → Option St
  | .move x take =>
    if pin then none else if take then some ((σ.demote x).put dst (x.get σ).mv) else some (σ.put dst (x.get σ).dem)
  | .alloc p cs => σ.newB nb dst (.live p cs) (fun id => .ptr id 0)
  | .box p x => match x.get σ with
    | .st cs => if p then none else σ.newB nb dst (.live false cs) (fun id => .ptr id 0)
    | v => match v.plain with
      | some v => σ.newB nb dst (.live p v.cells) (fun id => .ptr id 0)
      | none => none
  | .buildSlice sz n zero parts => do
    let cs ← fillParts σ parts (List.replicate n zero).flatten
    σ.putG nb dst pin sz (chunks sz n cs)
  | .load agg n a take => match a.get σ with
    | .ptr id off => match σ.b[id]? with
      | some (.live p cs) =>
        if agg then
          if off + n ≤ cs.length then
            if p then some (σ.put dst (.agg ((cs.drop off).take n)))
            else if take then do
              let vs ← ((cs.drop off).take n).mapM V.refd
              some (σ.put dst (.st vs))
            else do
              let vs ← ((cs.drop off).take n).mapM V.plain
              some (σ.put dst (.agg vs))
          else none
        else match cs[off]? with
          | some v => if take then (if p then none else some ((σ.setB id (.live p (cs.set off v.dem))).put dst v.tk)) else some (σ.put dst v.dem)
          | none => none
      | some (.fz cs) =>
        if agg then (if off + n ≤ cs.length then some (σ.put dst (.agg ((cs.drop off).take n))) else none)
        else match cs[off]? with
          | some v => some (σ.put dst v)
          | none => none
      | _ => none
    | .fp m cs =>
      if agg then (if n ≤ m then some (σ.put dst (.agg (cs.take n))) else none)
      else match cs[0]? with
        | some v => some (σ.put dst v)
        | none => none
    | _ => none
  | .store n a x => if dst.isSome then none else match a.get σ with
    | .ptr id off => match σ.b[id]? with
      | some (.live true cs) => do
        let v ← (x.get σ).plain
        if v.cells.length = n ∧ off + n ≤ cs.length then some (σ.setB id (.live true (setAt cs off v.cells))) else none
      | some (.live false cs) =>
        match x.get σ with
        | .agg us => if us.length = n ∧ off + n ≤ cs.length then some (σ.setB id (.live false (setAt cs off us))) else none
        | .st us => if us.length = n ∧ off + n ≤ cs.length then some (σ.setB id (.live false (setAt cs off us))) else none
        | .tup _ => none
        | .bx _ _ => none
        | .fr _ _ => none
        | .junk => none
        | v => if n = 1 ∧ off < cs.length then some ((σ.demote x).setB id (.live false (cs.set off v))) else none
      | _ => none
    | _ => none
  | .makeSlice sz bytes zero l c => match (l.get σ).int?, (c.get σ).int? with
    | some l, some c => if 0 ≤ l ∧ l ≤ c ∧ c.toNat * bytes ≤ sizeCap ∧ c ≤ sizeCap ∧ (pin = true → l = c) then σ.putG nb dst pin sz (List.replicate l.toNat zero) else none
    | _, _ => none
  | .append sz bytes s x => match s.get σ, view σ.b (x.get σ) with
    | .gs sz1 es, some (.sl sz2 es2) =>
      if sz1 = sz ∧ (sz2 = sz ∨ es2 = []) ∧ (es.length + es2.length) * bytes ≤ sizeCap ∧ es.length + es2.length ≤ sizeCap then
        if pin then (match s, es with
          | .const _, [] => σ.putG nb dst true sz es2
          | _, _ => none)
        else some ((σ.demote s).put dst (.gs sz (es ++ es2)))
      else none
    | .fr sz1 [], some (.sl sz2 es2) =>
      if sz1 = sz ∧ (sz2 = sz ∨ es2 = []) ∧ (0 + es2.length) * bytes ≤ sizeCap ∧ 0 + es2.length ≤ sizeCap then (σ.demote s).putG nb dst pin sz es2
      else none
    | .own id off len sz1, some (.sl sz2 es2) => match σ.b[id]? with
      | some (.live true cs) =>
        if sz1 = sz ∧ (sz2 = sz ∨ es2 = []) ∧ off = 0 ∧ (len + es2.length) * bytes ≤ sizeCap ∧ len + es2.length ≤ sizeCap ∧ (len + es2.length ≠ 0 ∨ cs.length = 0) then
          (σ.setB id (.dead cs.length)).newB nb dst (.live true (cs.take (len * sz) ++ es2.flatten)) (fun id' => .own id' 0 (len + es2.length) sz)
        else none
      | _ => none
    | _, _ => none
  | .appendZ sz bytes zero s x => match s.get σ, (x.get σ).int? with
    | .gs sz1 es, some n =>
      if sz1 = sz ∧ 0 ≤ n ∧ (es.length + n.toNat) * bytes ≤ sizeCap ∧ es.length + n.toNat ≤ sizeCap then
        if pin then none else (σ.demote s).putG nb dst false sz (es ++ List.replicate n.toNat zero)
      else none
    | _, _ => none
  | .copy sz d s => match d.get σ, view σ.b (s.get σ) with
    | .own id off len sz1, some (.sl sz2 es) => match σ.b[id]? with
      | some (.live true cs) =>
        if sz1 = sz ∧ sz2 = sz then
          some ((σ.setB id (.live true (setAt cs off (es.take (min es.length len)).flatten))).put dst (.sc (.int .i64 ((min es.length len : Nat) : Int))))
        else none
      | _ => none
    | _, _ => none
  | .clear sz zero x => match x.get σ with
    | .own id off len sz1 => match σ.b[id]? with
      | some (.live true cs) => if sz1 = sz then some ((σ.setB id (.live true (setAt cs off (List.replicate len zero).flatten))).put dst (.tup [])) else none
      | _ => none
    | _ => none
  | .extract x i => match x.get σ with
    | .tup vs => match vs[i]?, x with
      | some v, .tmp t =>
        if vs.all notTup ∧ dst ≠ some t then
          if v.isHeld then St.putR nb { σ with t := σ.t.set t (.tup (vs.set i .junk)) } dst pin v
          else if pin then none else some (σ.put dst v.dem)
        else none
      | _, _ => none
    | _ => none
  | .call f args xs => do
    let vs ← args.mapM (argOf σ)
    doCall cb nb σ dst pin f vs args xs
  | .callv f args xs => match f.get σ with
    | .fn g caps => do
      let vs ← args.mapM (argOf σ)
      doCall cb nb σ dst pin g (vs ++ caps) args xs
    | _ => none
  | .makeMap => σ.newB nb dst (.mp []) (fun id => .mp id)
  | .nilS sz id => match σ.b[nb + id]? with
    | some .gone => some ((σ.setB (nb + id) (.live true [])).put dst (.own (nb + id) 0 0 sz))
    | _ => none
  | .mlook kd ok zero x k => match x.get σ with
    | .mp id => match σ.b[id]? with
      | some (.mp es) => if keyOk kd (k.get σ) then do
          let r ← mfind (k.get σ) es
          pure (σ.put dst (if ok then .tup [r.getD zero, .sc (.bool r.isSome)] else r.getD zero))
        else none
      | _ => none
    | _ => none
  | .mput kd x k v => if dst.isSome then none else match x.get σ with
    | .mp id => match σ.b[id]? with
      | some (.mp es) => if keyOk kd (k.get σ) then do
          let val ← (v.get σ).plain
          let es' ← mset (k.get σ) val es
          pure (σ.setB id (.mp es'))
        else none
      | _ => none
    | _ => none
  | .lenM x => match x.get σ with
    | .mp id => match σ.b[id]? with
      | some (.mp es) => some (σ.put dst (.sc (.int .i64 es.length)))
      | _ => none
    | _ => none
  | k => (pureK σ k).map (fun v => σ.put dst v)

def guardOk (σ : St) : Option (Nat × Bool) → Option Bool
  | none => some true
  | some (j, want) => match σ.t[j]? with
    | some (.sc (.bool b)) => some (b == want)
    | some (.tup []) => some false
    | _ => none
def stepOp (cb : CB) (nb : Nat) (σ : St) (o : COp) : Option St :=
  match guardOk σ o.guard with
  | some true => stepK cb nb σ o.dst o.pin o.k
  | some false => some (σ.put o.dst (.tup []))
  | none => none
def stepOps (cb : CB) (nb : Nat) : List COp → St → Option St
  | [], σ => some σ
  | o :: rest, σ => (stepOp cb nb σ o).bind (stepOps cb nb rest)

/-- addresses of blocks that are gone are forgotten -/
def killV (dead : Nat → Bool) : V → V
  | .ptr id off => if dead id then .junk else .ptr id off
  | .own id off len sz => if dead id then .junk else .own id off len sz
  | .mp id => if dead id then .junk else .mp id
  | .st cs => if cs.any (fun | .own id _ _ _ => dead id | _ => false) then .junk else .st cs
  | .fn f caps => if caps.any (fun | .ptr id _ => dead id | _ => true) then .junk else .fn f caps
  | .tup [] => .tup []
  | .tup _ => .junk
  | v => v
def maskT (dead : Nat → Bool) : List Bool → List V → List V
  | k :: ks, v :: vs => (if k then killV dead v else .junk) :: maskT dead ks vs
  | [], vs => vs.map (fun _ => .junk)
  | _, [] => []
def killB (dead : Nat → Bool) : B → B
  | .live false cs => .live false (cs.map (killV dead))
  | x => x
def maskB (dead : Nat → Bool) : List Bool → List B → List B
  | k :: ks, v :: vs => (if k then killB dead v else .gone) :: maskB dead ks vs
  | [], vs => vs.map (fun _ => .gone)
  | _, [] => []
def mask (kt kb : List Bool) (σ : St) : St :=
  ⟨maskT (fun id => !(kb.getD id false)) kt σ.t, maskB (fun id => !(kb.getD id false)) kb σ.b⟩
/-- blocks that were lent are kept always -/
def maskN (nb : Nat) (kt kb : List Bool) (σ : St) : St := mask kt (List.replicate nb true ++ kb) σ
def loopN (body : St → Option (Ex × St)) (norm : St → St) : Nat → St → Option (Ex × St)
  | 0, _ => none
  | n + 1, σ => match body (norm σ) with
    | some (.normal, σ') => loopN body norm n σ'
    | r => r
/-- operations that look at slots alone -/
def slotpure : K → Bool
  | .pick .. | .build .. | .buildSt .. | .nilCheck _ | .bin .. | .eqAgg .. | .eqB .. | .nilT .. | .un .. | .conv .. | .sliceS .. | .fieldAddr .. | .field .. | .indexAddrA .. | .indexAddrS .. | .indexA .. | .lenS _ | .lenT _ | .lenA _ | .mm .. | .pull .. | .makeFunc .. => true
  | .move _ take => !take
  | _ => false
def isFz : Option B → Bool
  | some (.fz _) => true
  | _ => false
def noRefArg (b : List B) : V → Bool
  | .own id _ _ _ => isFz b[id]?
  | .ptr _ _ => false
  | .mp _ => false
  | .st _ => false
  | .fn _ caps => caps.isEmpty
  | _ => true
/-- the operation left memory alone -/
def quietNow (σ : St) (o : COp) (σ' : St) : Bool :=
  match guardOk σ o.guard with
  | some true => match o.k with
    | .load _ _ _ take => !take
    | .toStr _ | .cmpB .. | .sliceA .. | .move .. | .mlook .. | .lenM _ => true
    | .buildSlice .. | .makeSlice .. => !o.pin
    | .append _ _ s _ => !o.pin && (ownId (s.get σ)).isNone
    | .call _ args xs => !o.pin && xs.isEmpty && args.all (fun s => decide (s.2 < 2) && noRefArg σ.b (s.1.get σ)) && (match o.dst with | some d => (match σ'.t[d]? with | some v => !isPtr v | none => false) | none => false)
    | .extract x i => !o.pin && match x.get σ with
      | .tup vs => match vs[i]? with
        | some (.bx _ _) => false
        | some _ => true
        | none => false
      | _ => false
    | k => slotpure k
  | some false => true
  | none => false
def slotpureO (o : COp) : Bool := slotpure o.k
def isLoad : K → Bool
  | .load _ _ _ take => !take
  | _ => false
/-- blocks that a call may change -/
def callIds (nb : Nat) (σ : St) (dst : Option Nat) (args : List V) (srcs : List (Src × Nat)) (xs : List Nat) : List Nat :=
  lentIds (frozenBy σ srcs σ.b) args ++ srcs.filterMap (fun s => ownId (s.1.get σ)) ++ xs.map (nb + ·) ++ dst.toList.map (nb + ·)
/-- the operation does not change the block 'id' -/
def avoids (nb : Nat) (σ : St) (o : COp) (id : Nat) : Bool :=
  slotpure o.k || isLoad o.k || match guardOk σ o.guard with
    | some false => true
    | _ => match o.k with
      | .call _ args xs => match args.mapM (argOf σ) with
        | some vs => !((callIds nb σ o.dst vs args xs).contains id)
        | none => false
      | .alloc _ _ => !((o.dst.toList.map (nb + ·)).contains id)
      | .box _ _ => !((o.dst.toList.map (nb + ·)).contains id)
      | _ => false
def avoidW (nb : Nat) (σ : St) (o : COp) : List Nat → Bool
  | [] => true
  | r :: w => (match σ.t[r]? with
    | some (.ptr id _) => avoids nb σ o id
    | some (.fp _ _) => true
    | _ => false) && avoidW nb σ o w
def rootNow (σ : St) (o : COp) (r : Nat) : Bool :=
  isLoad o.k && match o.k with
    | .load _ _ (.tmp p) _ => match σ.t[p]?, σ.t[r]? with
      | some (.ptr id _), some (.ptr id' _) => Nat.beq id id'
      | some (.fp _ _), _ => true
      | _, _ => false
    | _ => false
def noRefV : V → Bool
  | .sc _ | .agg _ | .sl _ _ | .gs _ _ | .fp _ _ => true
  | .fn _ caps => caps.isEmpty
  | _ => false
/-- a call that gets no address of local memory and hands none over -/
def slotNow (σ : St) (o : COp) (σ' : St) : Bool :=
  match guardOk σ o.guard with
  | some false => true
  | some true => match o.k, o.dst with
    | .call _ args xs, some d => !o.pin && xs.isEmpty && args.all (fun s => decide (s.2 < 2) && noRefV (s.1.get σ)) && (match σ'.t[d]? with | some v => !isPtr v | none => false)
    | _, _ => false
  | none => false
def flOk (nb : Nat) (σ : St) (o : COp) (fl : Fl) (σ' : St) : Bool :=
  cond fl.s (slotNow σ o σ') <| (!fl.q || quietNow σ o σ') && (match fl.root with | none => true | some r => rootNow σ o r) && avoidW nb σ o fl.w
def stepD (cb : CB) (nb : Nat) : List (COp × Fl) → St → Option St
  | [], σ => some σ
  | (o, q) :: rest, σ => match stepOp cb nb σ o with
    | some σ' => if flOk nb σ o q σ' then stepD cb nb rest σ' else none
    | none => none
/-! two ends that are the same, told without doubt -/
def sameV : V → V → Bool
  | .junk, .junk => true
  | .ub, .ub => true
  | .tup [], .tup [] => true
  | .gs a [], .gs b [] => Nat.beq a b
  | .sl a [], .sl b [] => Nat.beq a b
  | .own a o l s, .own a' o' l' s' => Nat.beq a a' && Nat.beq o o' && Nat.beq l l' && Nat.beq s s'
  | _, _ => false
def sameVs : List V → List V → Bool
  | [], [] => true
  | a :: l, b :: m => sameV a b && sameVs l m
  | _, _ => false
def sameBs : List B → List B → Bool
  | [], [] => true
  | .gone :: l, .gone :: m => sameBs l m
  | .live true [] :: l, .live true [] :: m => sameBs l m
  | _, _ => false
def sameR : Option (Ex × St) → Option (Ex × St) → Bool
  | some (.ret, σ), some (.ret, τ) => sameVs σ.t τ.t && sameBs σ.b τ.b
  | some (.normal, σ), some (.normal, τ) => sameVs σ.t τ.t && sameBs σ.b τ.b
  | _, _ => false
theorem sameV_eq : ∀ {a b : V}, sameV a b = true → a = b := by
  intro a b h
  unfold sameV at h
  split at h
  · rfl
  · rfl
  · rfl
  · rw [Nat.eq_of_beq_eq_true h]
  · rw [Nat.eq_of_beq_eq_true h]
  · simp only [Bool.and_eq_true] at h
    obtain ⟨⟨⟨h1, h2⟩, h3⟩, h4⟩ := h
    rw [Nat.eq_of_beq_eq_true h1, Nat.eq_of_beq_eq_true h2, Nat.eq_of_beq_eq_true h3, Nat.eq_of_beq_eq_true h4]
  · cases h
theorem sameVs_eq : ∀ {a b : List V}, sameVs a b = true → a = b
  | [], [], _ => rfl
  | [], _ :: _, h => by cases h
  | _ :: _, [], h => by cases h
  | a :: l, b :: m, h => by
    simp only [sameVs, Bool.and_eq_true] at h
    rw [sameV_eq h.1, sameVs_eq h.2]
theorem sameBs_eq : ∀ {a b : List B}, sameBs a b = true → a = b
  | [], [], _ => rfl
  | [], b :: _, h => by simp [sameBs] at h
  | a :: l, c, h => by
    unfold sameBs at h
    split at h
    · rename_i e; cases e
    · rename_i e; cases e; rw [sameBs_eq h]
    · rename_i e; cases e; rw [sameBs_eq h]
    · cases h
theorem sameR_eq {r s : Option (Ex × St)} (h : sameR r s = true) : r = s := by
  unfold sameR at h
  split at h
  · rename_i σ τ
    simp only [Bool.and_eq_true] at h
    have h1 := sameVs_eq h.1
    have h2 := sameBs_eq h.2
    cases σ; cases τ; simp_all
  · rename_i σ τ
    simp only [Bool.and_eq_true] at h
    have h1 := sameVs_eq h.1
    have h2 := sameBs_eq h.2
    cases σ; cases τ; simp_all
  · cases h
/-- two ends of a function that are the same -/
def sameX (r s : Option (Ex × St)) : Bool := sameR r s && (match s with | some (.ret, _) => true | _ => false)
theorem sameX_eq {r s : Option (Ex × St)} (h : sameX r s = true) : r = s ∧ ∃ σ, s = some (.ret, σ) := by
  simp only [sameX, Bool.and_eq_true] at h
  refine ⟨sameR_eq h.1, ?_⟩
  have h2 := h.2
  split at h2
  · exact ⟨_, rfl⟩
  · cases h2
/-- blocks that are written no more -/
def fzAll (nb : Nat) : List Nat → St → St
  | [], σ => σ
  | d :: fz, σ => fzAll nb fz { σ with b := freeze σ.b (nb + d) }
def run (cb : CB) (nb : Nat) (L : Nat) : CC → St → Option (Ex × St)
  | .skip, σ => some (.normal, σ)
  | .reg ops, σ => (stepOps cb nb ops σ).map (fun σ => (.normal, σ))
  | .dreg fz ops, σ => (stepD cb nb ops (fzAll nb fz σ)).map (fun σ => (.normal, σ))
  | .seq a b, σ => match run cb nb L a σ with
    | some (.normal, σ') => run cb nb L b σ'
    | r => r
  | .fork p c a b, σ => match run cb nb L p σ with
    | some (.normal, σ') => match c.get σ' with
      | .ub => if sameX (run cb nb L a σ') (run cb nb L b σ') then run cb nb L b σ' else none
      | v => match v.bool? with
        | some true => match run cb nb L a σ' with
          | some (.normal, σ2) => run cb nb L b σ2
          | r => r
        | some false => run cb nb L b σ'
        | none => none
    | r => r
  | .cond c a b, σ => match c.get σ with
    | .ub => if sameR (run cb nb L a σ) (run cb nb L b σ) then run cb nb L b σ else none
    | v => match v.bool? with
      | some t => if t then run cb nb L a σ else run cb nb L b σ
      | none => none
  | .block id a, σ => match run cb nb L a σ with
    | some (.exit j, σ') => if j = id then some (.normal, σ') else some (.exit j, σ')
    | r => r
  | .loop kt kb a, σ => loopN (run cb nb L a) (maskN nb kt kb) L σ
  | .mask kt kb, σ => some (.normal, maskN nb kt kb σ)
  | .exit id, σ => some (.exit id, σ)
  | .ret, σ => some (.ret, σ)

/-- a cell of a struct that goes out: slices of local memory go out with it -/
def settle (nb : Nat) (b : List B) : V → Option V
  | .own id off len sz => if nb ≤ id then match b[id]? with
      | some (.live true cs) => some (.sl sz (chunks sz len (cs.drop off)))
      | some (.fz cs) => some (.sl sz (chunks sz len (cs.drop off)))
      | _ => none
    else none
  | v => v.plain
/-- the function's results -/
def resOne (nb : Nat) (σ : St) : RV → Option V
  | .tmp t => match σ.t.getD t .junk with
    | .own id off len sz => if nb ≤ id then (if off = 0 ∧ 0 < sz then match σ.b[id]? with
        | some (.live true cs) => if len ≠ 0 ∨ cs.length = 0 then some (.fr sz (chunks sz len cs)) else none
        | _ => none
      else none) else some (.own id off len sz)
    | .ptr id off => if off = 0 ∧ nb ≤ id then match σ.b[id]? with
        | some (.live p cs) => if cs.length ≠ 0 then (if p then some (.bx p cs) else (cs.mapM V.plain).map (.bx p)) else none
        | _ => none
      else none
    | .sc v => some (.sc v)
    | .agg cs => some (.agg cs)
    | .sl sz es => some (.sl sz es)
    | .gs sz es => some (.gs sz es)
    | .st cs => some (.st cs)
    | _ => none
  | .tmpP t => match σ.t.getD t .junk with
    | .own id off len sz => if nb ≤ id ∧ off = 0 ∧ 0 < sz then match σ.b[id]? with
        | some (.live true cs) => some (.gs sz (chunks sz len cs))
        | _ => none
      else none
    | .st cs => (cs.mapM (settle nb σ.b)).map .agg
    | .sc v => some (.sc v)
    | .agg cs => some (.agg cs)
    | .sl sz es => some (.sl sz es)
    | .gs sz es => some (.gs sz es)
    | _ => none
  | .cell t agg n => match σ.t.getD t .junk with
    | .ptr id off => match σ.b[id]? with
      | some (.live p cs) =>
        if agg then
          if off = 0 ∧ cs.length = n ∧ n ≠ 0 then (if p then some (.agg cs) else (cs.mapM V.plain).map .agg) else none
        else if n = 1 ∧ off = 0 then (cs[0]?).bind V.plain else none
      | _ => none
    | _ => none
/-- no two results share a slot or a block -/
def RV.slot : RV → Option Nat
  | .tmp t => some t
  | .tmpP t => some t
  | .cell _ _ _ => none
def resDistinct : List RV → Bool
  | [] => true
  | r :: rest => (match r.slot with | some t => rest.all (fun q => match q.slot with | some u => t != u | none => true) | none => true) && resDistinct rest
/-- the blocks of the function's own that go out -/
def goneIds (nb : Nat) : V → List Nat
  | .own id _ _ _ => if nb ≤ id then [id] else []
  | .ptr id _ => [id]
  | .st cs => (cs.filterMap ownId).filter (fun id => decide (nb ≤ id))
  | _ => []
def oneRef (nb : Nat) (σ : St) : List RV → List Nat
  | [] => []
  | r :: rest => (match r.slot with | some t => goneIds nb (σ.t.getD t .junk) | none => []) ++ oneRef nb σ rest
def nodupB : List Nat → Bool
  | [] => true
  | x :: xs => !xs.contains x && nodupB xs
def results (nb : Nat) (σ : St) (rs : List RV) : Option V :=
  if resDistinct rs && nodupB (oneRef nb σ rs) then
    match rs with
    | [r] => resOne nb σ r
    | rs => (rs.mapM (resOne nb σ)).map .tup
  else none
/-- what is given back: the blocks that were lent, then those that the result names -/
def outIds (nb : Nat) (r : V) : List Nat := List.range nb ++ (refsR r).filter (fun id => decide (nb ≤ id))
def borOf (b : List B) (nb : Nat) (ids : List Nat) : List Nat → Option Bor
  | [] => some []
  | id :: rest => match b[id]? with
    | some x => if x.lend ids && (decide (id < nb) || x.isRow) then (borOf b nb ids rest).map (x.ren (idxIn ids) :: ·) else none
    | none => none
def leaveF (nb : Nat) (σ : St) (rs : List RV) : Option (V × Bor) := do
  let r ← results nb σ rs
  let b ← borOf σ.b nb (outIds nb r) (outIds nb r)
  if nodupB (outIds nb r) then pure (renR (idxIn (outIds nb r)) r, b) else none
def enter (nt : Nat) (args : List V) (bor : Bor) : St :=
  ⟨args ++ List.replicate (nt - args.length) (.tup []), bor ++ List.replicate nt .gone⟩
/-- a call of function 'f' of the table: depth 'd' of calls, 'L' rounds a loop; 'pr': functions that are met by contracts of their own -/
def evF (T : Nat → Option CF) (pr : CB) (L : Nat) : Nat → Nat → List V → Bor → Option (V × Bor)
  | 0, _, _, _ => none
  | d + 1, f, args, bor => match T f with
    | none => pr f args bor
    | some c => match run (evF T pr L d) bor.length L c.body (enter c.ntmps args bor) with
      | some (.normal, σ) | some (.ret, σ) => leaveF bor.length σ c.res
      | _ => none
end Go.Proofs.Ythplooifbkopgaa
