/- From the model's operations to those of the abstract machine. Nothing of the program is in here. -/
import Derived.Test.YthplooifbkopgaaE1
namespace Go.Proofs.Ythplooifbkopgaa

/-- what is kept: slots and blocks; none: all -/
abbrev Msk := Option (List Bool × List Bool)
structure Hint where
  take : List (Nat × Nat)
  pin : List (Nat × Nat)
  masks : List Msk
  fz : List (Nat × List Nat) := []
  xs : List (Nat × Nat × List Nat) := []
  rp : Bool := false

section
variable (P : Program) (ren : Nat → Option Nat)

def sizeT (t : TypeId) : Option Nat := (P.info? t).map (·.size)
def aggT (t : TypeId) : Option Bool := (P.underlying t).map fun | .struct _ | .array _ _ => true | _ => false
/-- the zero of a type, cell by cell -/
def zeroT : Nat → TypeId → Option (List V)
  | 0, _ => none
  | d + 1, t => match P.underlying t with
    | some .bool => some [.sc (.bool false)]
    | some (.int k) => some [.sc (.int k 0)]
    | some .string => some [.sc (.string .empty)]
    | some (.slice e) => do some [.gs (← sizeT P e) []]
    | some (.pointer _) => some [.sc (.pointer none)]
    | some (.func _ _ _) => some [.sc .nilFunc]
    | some (.map _ _) => some [.sc (.map none)]
    | some (.array n e) => do some (List.replicate n (← zeroT d e)).flatten
    | some (.struct fs) => do some (← fs.toList.mapM (fun f => zeroT d f.type)).flatten
    | _ => none
def isSc : V → Bool
  | .sc (.int _ _) | .sc (.bool _) | .sc (.string _) => true
  | _ => false
def zMatch : V → Value → Bool
  | .sc (.bool a), .bool b => a == b
  | .sc (.int k a), .int k' b => k == k' && a == b
  | .sc (.string a), .string b => a.size == 0 && b.size == 0
  | .sc (.pointer none), .pointer none => true
  | .sc .nilFunc, .nilFunc => true
  | .sc (.map none), .map none => true
  | .gs _ [], .slice none 0 0 => true
  | _, _ => false
def zMatchAll : List V → List Value → Bool
  | [], [] => true
  | v :: vs, u :: us => zMatch v u && zMatchAll vs us
  | _, _ => false
/-- the zero of a type, held against the type's own row -/
def zeroC (t : TypeId) : Option (List V) := do
  let cs ← zeroT P 20 t
  let z ← (P.info? t).bind (·.zero)
  if zMatchAll cs z.cells.toList then some cs else none
def constV (ty : TypeId) : Value → Option V
  | .bool b => some (.sc (.bool b))
  | .int k n => some (.sc (.int k n))
  | .string s => some (.sc (.string s))
  | .slice none 0 0 => match P.underlying ty with
    | some (.slice e) => do some (.gs (← sizeT P e) [])
    | _ => none
  | .nilFunc => some (.sc .nilFunc)
  | .pointer none => some (.sc (.pointer none))
  | _ => none
def cSrc (ty : TypeId) : Operand → Option Src
  | .tmp t => some (.tmp t)
  | .const v => (constV P ty v).map .const
  | .func f => (ren f).map (fun g => .const (.fn g []))
  | .global _ => none
def cSrcO (ty : TypeId) : Option Operand → Option (Option Src)
  | none => some none
  | some x => (cSrc P ren ty x).map some
def cParts (place : Nat → Option (Nat × TypeId)) : List (Nat × Operand) → Option (List (Nat × Nat × Src))
  | [] => some []
  | (i, x) :: rest => do
    let (off, ty) ← place i
    let s ← cSrc P ren ty x
    let n ← sizeT P ty
    pure ((off, n, s) :: (← cParts place rest))
def cArgs : List Operand → List TypeId → Option (List Src)
  | [], _ => some []
  | x :: xs, ts => do
    let s ← cSrc P ren (ts.headD 0) x
    pure (s :: (← cArgs xs ts.tail))
/-- a struct that holds slices -/
def sliced (t : TypeId) : Bool := match aggT P t with
  | some true => match zeroT P 20 t with
    | some z => !(z.all isSc)
    | none => true
  | _ => false
def cArgsT (lend : Nat) : List Operand → List TypeId → Option (List (Src × Nat))
  | [], _ => some []
  | x :: xs, ts => do
    let s ← cSrc P ren (ts.headD 0) x
    pure ((s, (if sliced P (ts.headD 0) then 1 else 0) + lend) :: (← cArgsT lend xs ts.tail))
def fieldPlaces (fs : Array Field) (i : Nat) : Option (Nat × TypeId) := (fs[i]?).map fun f => (f.offset, f.type)
/-- how many cells a type has that is compared cell by cell -/
def eqFieldsTo (size : TypeId → Option Nat) : List Field → Nat → Option Nat
  | [], off => some off
  | f :: fs, off => do
    let s ← size f.type
    if f.name ≠ "_" ∧ f.offset = off ∧ sizeT P f.type = some s then eqFieldsTo size fs (off + s) else none
def eqSize : Nat → TypeId → Option Nat
  | 0, _ => none
  | d + 1, t => match P.underlying t with
    | some (.int _) => if sizeT P t = some 1 then some 1 else none
    | some (.array n e) => do
      let s ← eqSize d e
      if sizeT P e = some s then some (n * s) else none
    | some (.struct fs) => if P.stoodInHeld t then none else eqFieldsTo P (eqSize d) fs.toList 0
    | _ => none
/-- the keys of a map -/
def keyC (t : TypeId) : Option Nat := do
  match ← P.underlying t with
  | .int _ => some 0
  | .string => some 1
  | .struct _ | .array _ _ => do some ((← eqSize P 20 t) + 2)
  | _ => none
/-- what is read where there is no entry -/
def zeroM (t : TypeId) : Option V := do
  let z ← zeroC P t
  let b ← aggT P t
  let zv ← (P.info? t).bind (·.zero)
  match b, zv, z with
  | true, .agg _, z => some (.agg (z.map V.dem))
  | false, .agg _, _ => none
  | false, _, [v] => some v.dem
  | _, _, _ => none
def cBuiltin (b : Builtin) (args : List Operand) (ts : List TypeId) : Option K :=
  match b, args, ts with
  | .len, [x], [t] => do
    match ← P.underlying t with
    | .slice _ => some (.lenS (← cSrc P ren t x))
    | .string => some (.lenT (← cSrc P ren t x))
    | .array n _ => some (.lenA n)
    | .map _ _ => some (.lenM (← cSrc P ren t x))
    | _ => none
  | .append, [s, x], [t, u] => do
    match ← P.underlying t, ← P.underlying u with
    | .slice e, .slice _ =>
      let sz ← sizeT P e
      let i ← P.info? e
      let z ← zeroC P e
      if 0 < sz ∧ z.length = sz ∧ t = u then some (.append sz i.bytes (← cSrc P ren t s) (← cSrc P ren u x)) else none
    | .slice e, .int _ =>
      let sz ← sizeT P e
      let i ← P.info? e
      let z ← zeroC P e
      if 0 < sz ∧ z.length = sz then some (.appendZ sz i.bytes (z.map V.dem) (← cSrc P ren t s) (← cSrc P ren u x)) else none
    | _, _ => none
  | .copy, [d, s], [t, u] => do
    match ← P.underlying t, ← P.underlying u with
    | .slice e, .slice _ =>
      let sz ← sizeT P e
      if 0 < sz then some (.copy sz (← cSrc P ren t d) (← cSrc P ren u s)) else none
    | _, _ => none
  | .clear, [x], [t] => do
    match ← P.underlying t with
    | .slice e =>
      let sz ← sizeT P e
      let z ← zeroC P e
      if 0 < sz ∧ z.length = sz then some (.clear sz (z.map V.dem) (← cSrc P ren t x)) else none
    | _ => none
  | .min, [x, y], _ => do some (.mm false (← cSrc P ren 0 x) (← cSrc P ren 0 y))
  | .max, [x, y], _ => do some (.mm true (← cSrc P ren 0 x) (← cSrc P ren 0 y))
  | _, _, _ => none
/-- the library's comparison of two byte strings -/
def isCmp (f : FuncId) : Bool := match P.funcs[f]? with
  | some fn => fn.body.isNone && fn.name == "internal/bytealg.Compare" && (Extern.findNext fn).isNone
  | none => false
def moveK (t : TypeId) (take : Bool) (xs : List Nat) (x : Operand) : Option K := match xs, x with
  | [k], .const (.slice none 0 0) => match P.underlying t with
    | some (.slice e) => (sizeT P e).map fun s => .nilS s k
    | _ => none
  | _, _ => (cSrc P ren t x).map fun s => .move s take
theorem moveK_inv {t : TypeId} {take : Bool} {xs : List Nat} {x : Operand} {k : K} (hk : moveK P ren t take xs x = some k) : (∃ sz k', x = .const (.slice none 0 0) ∧ k = .nilS sz k') ∨ ∃ s, cSrc P ren t x = some s ∧ k = .move s take := by
  unfold moveK at hk
  split at hk
  · split at hk
    · rw [Option.map_eq_some_iff] at hk
      obtain ⟨s, _, rfl⟩ := hk
      exact .inl ⟨_, _, rfl, rfl⟩
    · cases hk
  · rw [Option.map_eq_some_iff] at hk
    obtain ⟨s, hs, rfl⟩ := hk
    exact .inr ⟨s, hs, rfl⟩
def cK (o : Oper) (take : Bool) (xs : List Nat) : Option K :=
  match o.op with
  | .move x | .assign x => moveK P ren o.type take xs x
  | .pick c a b => do some (.pick (← cSrc P ren o.type c) (← cSrc P ren o.type a) (← cSrc P ren o.type b))
  | .alloc t => do
    let z ← zeroC P t
    some (.alloc (z.all isSc) z)
  | .box t x => do
    let z ← zeroC P t
    some (.box (z.all isSc) (← cSrc P ren t x))
  | .build t parts => do
    let z ← zeroC P t
    match ← P.underlying t with
    | .struct fs => do
      let _ ← fs.toList.mapM (fun f => (P.info? f.type).map fun i => (f.offset, i.size))
      let ps ← cParts P ren (fieldPlaces fs) parts.toList
      some (if take then .buildSt (z.map V.dem) ps else .build (z.map V.dem) ps)
    | .array _ e => do
      let n ← sizeT P e
      let ps ← cParts P ren (fun i => some (i * n, e)) parts.toList
      some (if take then .buildSt (z.map V.dem) ps else .build (z.map V.dem) ps)
    | _ => none
  | .buildSlice t n parts => do
    match ← P.underlying t with
    | .slice e =>
      let z ← zeroC P e
      let sz ← sizeT P e
      if 0 < sz ∧ z.length = sz ∧ n * sz ≤ 1000000 then some (.buildSlice sz n (z.map V.dem) (← cParts P ren (fun i => some (i * sz, e)) parts.toList)) else none
    | _ => none
  | .load t a => do some (.load (← aggT P t) (← sizeT P t) (← cSrc P ren 0 a) take)
  | .store t a x => do some (.store (← sizeT P t) (← cSrc P ren 0 a) (← cSrc P ren t x))
  | .nilCheck x => do some (.nilCheck (← cSrc P ren 0 x))
  | .binOp op t x y _ => do
    match ← P.underlying t with
    | .int _ | .string => some (.bin op (← cSrc P ren t x) (← cSrc P ren t y))
    | .slice _ => match y with
      | .const (.slice none 0 0) => if op == .eql || op == .neq then some (.nilT (op == .neq) (← cSrc P ren t x)) else none
      | _ => none
    | .bool => if op == .eql || op == .neq then some (.eqB (op == .neq) (← cSrc P ren t x) (← cSrc P ren t y)) else none
    | .struct _ | .array _ _ =>
      if (op == .eql || op == .neq) && (eqSize P 20 t).isSome && (eqSize P 20 t == sizeT P t) && !(P.eqGuardType P.depth t) then some (.eqAgg (op == .neq) ((sizeT P t).getD 0) (← cSrc P ren t x) (← cSrc P ren t y)) else none
    | _ => none
  | .unOp op t x => do some (.un op (← cSrc P ren t x))
  | .convert s d x => do
    match ← P.underlying s, ← P.underlying d with
    | .int _, .int k => some (.conv k (← cSrc P ren s x))
    | .slice e, .string => match ← P.underlying e with
      | .int .u8 => some (.toStr (← cSrc P ren s x))
      | _ => none
    | _, _ => none
  | .makeFunc fn first caps => match fn with
    | .func f => if first.size = 0 then do some (.makeFunc (← ren f) (← cArgs P ren caps.toList [])) else none
    | _ => none
  | .makeSlice t l c => do
    match ← P.underlying t with
    | .slice e =>
      let z ← zeroC P e
      let sz ← sizeT P e
      let i ← P.info? e
      if 0 < sz ∧ z.length = sz then some (.makeSlice sz i.bytes (z.map V.dem) (← cSrc P ren 0 l) (← cSrc P ren 0 c)) else none
    | _ => none
  | .slice t x lo hi mx => if mx.isSome && hi.isNone then none else do
    match ← P.underlying t with
    | .array n e =>
      let sz ← sizeT P e
      if 0 < sz then some (.sliceA n sz (← cSrc P ren t x) (← cSrcO P ren 0 lo) (← cSrcO P ren 0 hi) (← cSrcO P ren 0 mx)) else none
    | .slice e =>
      let sz ← sizeT P e
      if 0 < sz then some (.sliceS sz (← cSrc P ren t x) (← cSrcO P ren 0 lo) (← cSrcO P ren 0 hi) (← cSrcO P ren 0 mx)) else none
    | _ => none
  | .fieldAddr t x i => do
    match ← P.underlying t with
    | .struct fs =>
      let f ← fs[i]?
      let n ← sizeT P f.type
      if n = 0 then none else some (.fieldAddr f.offset (← cSrc P ren 0 x))
    | _ => none
  | .field t x i => do
    match ← P.underlying t with
    | .struct fs =>
      let f ← fs[i]?
      some (.field (← aggT P f.type) f.offset (← sizeT P f.type) (← cSrc P ren t x))
    | _ => none
  | .indexAddr t x i => do
    match ← P.underlying t with
    | .array n e => some (.indexAddrA n (← sizeT P e) (← cSrc P ren 0 x) (← cSrc P ren 0 i))
    | .slice e =>
      let sz ← sizeT P e
      if 0 < sz then some (.indexAddrS sz (← cSrc P ren t x) (← cSrc P ren 0 i)) else none
    | _ => none
  | .index t x i => do
    match ← P.underlying t with
    | .array n e => some (.indexA (← aggT P e) n (← sizeT P e) (← cSrc P ren t x) (← cSrc P ren 0 i))
    | _ => none
  | .makeMap _ r => if r.isNone then some .makeMap else none
  | .lookup t x i ok => do
    match ← P.underlying t with
    | .map k e =>
      let kd ← keyC P k
      some (.mlook kd ok (← zeroM P e) (← cSrc P ren t x) (← cSrc P ren k i))
    | _ => none
  | .mapUpdate t m k x | .insert t m k x => do
    match ← P.underlying t with
    | .map kt e =>
      let kd ← keyC P kt
      some (.mput kd (← cSrc P ren t m) (← cSrc P ren kt k) (← cSrc P ren e x))
    | _ => none
  | .extract x i => do
    let s ← cSrc P ren 0 x
    some (if take then .extract s i else .pull s i)
  | .call c => match c.callee with
    | .value (.func f) => if isCmp P f then (match c.args.toList with
        | [x, y] => do some (.cmpB (← cSrc P ren 0 x) (← cSrc P ren 0 y))
        | _ => none) else do some (.call (← ren f) (← cArgsT P ren (if take then 2 else 0) c.args.toList c.argTypes.toList) xs)
    | .value (.tmp t) => do some (.callv (.tmp t) (← cArgsT P ren (if take then 2 else 0) c.args.toList c.argTypes.toList) xs)
    | .builtin b => cBuiltin P ren b c.args.toList c.argTypes.toList
    | _ => none
  | _ => none
def cGuard (ops : Array Oper) : Option (Nat × Bool) → Option (Option (Nat × Bool))
  | none => some none
  | some (j, want) => do some (some (← (← ops[j]?).dst, want))
def cOp (h : Hint) (rid : Nat) (ops : Array Oper) (i : Nat) (o : Oper) : Option COp := do
  let k ← cK P ren o (h.take.contains (rid, i)) (((h.xs.find? fun x => x.1 == rid && x.2.1 == i).map (·.2.2)).getD [])
  let g ← cGuard ops o.guard
  some ⟨o.dst, h.pin.contains (rid, i), g, k⟩
def cOps (h : Hint) (rid : Nat) (ops : Array Oper) : List Oper → Nat → Option (List COp)
  | [], _ => some []
  | o :: rest, i => do
    let c ← cOp P ren h rid ops i o
    pure (c :: (← cOps h rid ops rest (i + 1)))
end
def apart (a b : List Nat) : Bool := a.all (fun x => !b.contains x)
def Src.tmps : Src → List Nat
  | .tmp t => [t]
  | .const _ => []
def Src.tmpsO : Option Src → List Nat
  | some s => s.tmps
  | none => []
/-- the slots that an operation reads -/
def readsK : K → List Nat
  | .move x _ | .nilT _ x | .box _ x | .load _ _ x _ | .nilCheck x | .un _ x | .conv _ x | .toStr x | .fieldAddr _ x | .field _ _ _ x | .lenS x | .lenT x | .lenM x | .extract x _ | .pull x _ => x.tmps
  | .pick c a b => c.tmps ++ a.tmps ++ b.tmps
  | .alloc .. | .lenA _ | .makeMap | .nilS .. => []
  | .mlook _ _ _ x k => x.tmps ++ k.tmps
  | .mput _ x k v => x.tmps ++ k.tmps ++ v.tmps
  | .build _ ps | .buildSt _ ps | .buildSlice _ _ _ ps => ps.flatMap (fun p => p.2.2.tmps)
  | .store _ a x | .cmpB a x | .bin _ a x | .eqAgg _ _ a x | .eqB _ a x | .makeSlice _ _ _ a x | .indexAddrA _ _ a x | .indexAddrS _ a x | .indexA _ _ _ a x | .append _ _ a x | .appendZ _ _ _ a x | .copy _ a x | .mm _ a x => a.tmps ++ x.tmps
  | .sliceA _ _ x l h m | .sliceS _ x l h m => x.tmps ++ Src.tmpsO l ++ Src.tmpsO h ++ Src.tmpsO m
  | .clear _ _ x => x.tmps
  | .call _ xs _ => xs.flatMap (fun p => p.1.tmps)
  | .callv f xs _ => f.tmps ++ xs.flatMap (fun p => p.1.tmps)
  | .makeFunc _ xs => xs.flatMap Src.tmps
def readsOp (o : COp) : List Nat := readsK o.k ++ (match o.guard with | some (j, _) => [j] | none => [])
/-- the slots, beside its own, that an operation changes -/
def takesK : K → List Nat
  | .move x true => x.tmps
  | .store _ _ x | .extract x _ | .append _ _ x _ | .appendZ _ _ _ x _ => x.tmps
  | _ => []
/-- the slots of two operations are such that their order does not matter -/
def slotsApart (a b : COp) : Bool :=
  apart (takesK a.k ++ a.dst.toList) (readsOp b ++ takesK b.k ++ b.dst.toList) && apart (takesK b.k ++ b.dst.toList) (readsOp a ++ takesK a.k ++ a.dst.toList)
/-- slots that an operation changes -/
def changes (o : COp) : List Nat := takesK o.k ++ o.dst.toList
def Fl.roots (f : Fl) : List Nat := f.root.toList ++ f.w
def rootIn (r : Option Nat) (w : List Nat) : Bool := match r with
  | some r => w.contains r
  | none => false
/-- a pair of operations without an order: one looks at slots alone, or both must leave memory alone, or one loads from a block that the other does not touch; their slots are apart -/
def pairOk (a b : COp × Fl) : Bool := slotsApart a.1 b.1 && apart (changes a.1 ++ changes b.1) (a.2.roots ++ b.2.roots) &&
  (slotpure a.1.k || slotpure b.1.k || (a.2.q && b.2.q && !a.2.s && !b.2.s) || (rootIn a.2.root b.2.w && !a.2.s && !b.2.s) || (rootIn b.2.root a.2.w && !a.2.s && !b.2.s) || a.2.s || b.2.s)
def pairsOk (before : Array Nat) (ks : List (COp × Fl)) : Bool :=
  (List.range ks.length).all fun j => (List.range j).all fun i =>
    (before.getD j 0).testBit i || match ks[i]?, ks[j]? with | some a, some b => pairOk a b | _, _ => false
/-- what an operation must wait for stands before it -/
def edgesBack (ops : Array Oper) : Bool := ops.toList.zipIdx.all fun (o, i) => o.after.all fun e => !Region.binds .any e || decide (e.on < i)
def rootUp (ks : List COp) : Nat → Nat → Option Nat
  | 0, _ => none
  | n + 1, p => match ks.find? (fun o => o.dst == some p) with
    | none => some p
    | some o => match o.k with
      | .fieldAddr _ (.tmp u) => rootUp ks n u
      | .nilCheck (.tmp u) => rootUp ks n u
      | .move (.tmp u) false => rootUp ks n u
      | _ => none
/-- the slot that holds the address of the block that is loaded from -/
def rootOf (ks : List COp) (o : COp) : Option Nat := match o.k with
  | .load _ _ (.tmp p) false => (rootUp ks 5 p).bind fun r => if ks.any (fun k => (changes k).contains r) then none else some r
  | _ => none
def isCall : K → Bool
  | .call .. => true
  | _ => false
def isAlloc : K → Bool
  | .alloc .. | .box .. => true
  | _ => false
/-- which operations must be quiet: those that stand in a pair without an order where neither looks at slots alone -/
def needQuiet (before : Array Nat) (ks : List COp) : List (COp × Fl) :=
  ks.zipIdx.map fun (o, i) =>
    let ps := (ks.zipIdx.filter fun (b, j) => i != j && !((before.getD (max i j) 0).testBit (min i j)) && !(slotpure o.k || slotpure b.k)).map (·.1)
    (o, match ps with
      | [] => q0
      | ps => match rootOf ks o with
        | some r => ⟨true, some r, [], false⟩
        | none => if (isCall o.k && ps.all (fun b => (rootOf ks b).isSome)) || (isAlloc o.k && ps.all (fun b => isCall b.k || (rootOf ks b).isSome)) then ⟨false, none, (ps.filterMap (rootOf ks)).eraseDups, false⟩
          else if isCall o.k && ps.any (fun b => isAlloc b.k) then q2 else q1)
/-- what is forgotten after 'c' -/
def CC.msk (c : CC) : Msk → CC
  | none => c
  | some (kt, kb) => .seq c (.mask kt kb)
/-- what is forgotten ahead of 'c' -/
def CC.pre (c : CC) : Msk → CC
  | none => c
  | some (kt, kb) => .seq (.mask kt kb) c
/-- code that ends with a test for nil, and what is done if it holds -/
def lastNil (s : Src) : List COp → Bool
  | [] => false
  | [⟨some d, _, _, .nilT _ _⟩] => match s with
    | .tmp t => Nat.beq t d
    | _ => false
  | _ :: rest => lastNil s rest
def forkOf : CC → Option (CC × Src × CC)
  | .seq (.reg ops) (.cond s x .skip) => if lastNil s ops then some (.reg ops, s, x) else none
  | _ => none
def mkSeq (a b : CC) : CC := match forkOf a with
  | some (p, s, x) => .fork p s x b
  | none => .seq a b
def cCode (P : Program) (ren : Nat → Option Nat) (h : Hint) : Code → List Msk → Option (CC × List Msk)
  | .skip, ms => some (.skip, ms)
  | .region id ops draw, ms => do
    let cs ← cOps P ren h id ops ops.toList 0
    if draw then (if edgesBack ops && pairsOk (Region.before ops) (needQuiet (Region.before ops) cs) then some (.dreg ((h.fz.lookup id).getD []) (needQuiet (Region.before ops) cs), ms) else none) else some (.reg cs, ms)
  | .seq a b, ms => do
    let (a', ms) ← cCode P ren h a ms
    let (b', ms) ← cCode P ren h b ms
    some (mkSeq a' b', ms)
  | .cond c a b, m :: ms => do
    let s ← cSrc P ren 0 c
    let (a', ms) ← cCode P ren h a ms
    let (b', ms) ← cCode P ren h b ms
    some (CC.msk (.cond s a' b') m, ms)
  | .block id a, m :: ms => do
    let (a', ms) ← cCode P ren h a ms
    some (CC.msk (.block id a') m, ms)
  | .loop a, some (kt, kb) :: ms => do
    let (a', ms) ← cCode P ren h a ms
    some (.loop kt kb a', ms)
  | .exit id, m :: ms => some (CC.pre (.exit id) m, ms)
  | .ret, m :: ms => some (CC.pre .ret m, ms)
  | _, _ => none
def cRes (P : Program) (rp : Bool) : List ResultVar → Option (List RV)
  | [] => some []
  | .tmp t :: rest => do some ((if rp then .tmpP t else .tmp t) :: (← cRes P rp rest))
  | .cell a t :: rest => do some (.cell a (← aggT P t) (← sizeT P t) :: (← cRes P rp rest))
def cFun (P : Program) (ren : Nat → Option Nat) (h : Hint) (f : FuncId) : Option CF := do
  let fn ← P.funcs[f]?
  let body ← fn.body
  let (c, _) ← cCode P ren h body h.masks
  let rs ← cRes P h.rp fn.results.toList
  if fn.params.size + fn.nfree ≤ fn.ntmps then some ⟨fn.ntmps, rs, c⟩ else none
end Go.Proofs.Ythplooifbkopgaa
