/- From the reading of an argument to the machine's values, for every type of numbers, truths, strings, slices, arrays and structs. Nothing of the program is in here. -/
import Derived.Test.YthplooifbkopgaaE29
import Derived.ProofKit
import Derived.OpenShut
import Derived.ChangeOld
import Derived.Deep.Slices
import Derived.SizedLaws
namespace Go.Proofs.Ythplooifbkopgaa
open Go.ChangeShapes Go.WideShapes Go.RowKit Go.Deep
set_option linter.unusedVariables false
set_option linter.unusedSimpArgs false

/-- the type of a cell -/
inductive CT where
  | int (k : IntKind)
  | bool
  | str
  | sl (cs : List CT)
inductive HasC : CT → V → Prop
  | int (k : IntKind) (n : Int) (h : (Lit.int k n).wf = true) : HasC (.int k) (.sc (.int k n))
  | bool (b : Bool) : HasC .bool (.sc (.bool b))
  | str (s : ByteArray) (h : s.size ≤ maxLen) : HasC .str (.sc (.string s))
  | sl (cs : List CT) (es : List (List V)) (hl : es.length ≤ maxLen) (h0 : ∀ e ∈ es, e.length = cs.length) (h : ∀ e ∈ es, ∀ (i : Nat) (c : V) (ct : CT), e[i]? = some c → cs[i]? = some ct → HasC ct c) : HasC (.sl cs) (.sl cs.length es)
/-- a row of cells -/
def HasRow (cts : List CT) (vs : List V) : Prop := vs.length = cts.length ∧ ∀ (i : Nat) (c : V) (ct : CT), vs[i]? = some c → cts[i]? = some ct → HasC ct c
def fieldCT (f : TypeId → Option (List CT)) (size : TypeId → Nat) : List Field → Nat → Option (List CT)
  | [], _ => some []
  | x :: xs, off => do
    let a ← f x.type
    if x.offset = off ∧ size x.type = a.length then
      let b ← fieldCT f size xs (off + a.length)
      some (a ++ b)
    else none
def cellTys (P : Program) : Nat → TypeId → Option (List CT)
  | 0, _ => none
  | d + 1, t => match P.underlying t with
    | some .bool => some [.bool]
    | some (.int k) => some [.int k]
    | some .string => some [.str]
    | some (.slice e) => do
      let c ← cellTys P d e
      if P.cellsOf e = c.length ∧ 0 < c.length then some [.sl c] else none
    | some (.array n e) => do
      let c ← cellTys P d e
      if P.cellsOf e = c.length ∧ P.cellsOf t = n * c.length then some (List.replicate n c).flatten else none
    | some (.struct fs) => do
      let c ← fieldCT (cellTys P d) P.cellsOf fs.toList 0
      if P.cellsOf t = c.length then some c else none
    | _ => none

section
variable {H : Type} {enc : TypeId × Value → H} {P : Program} {w : World} {base : Nat} {spare : Nat → Bool} {held : Bool} {ren : Nat → Option Nat}
/-- the cells 'cs' read as 'vs' -/
def RdC (ren : Nat → Option Nat) (w : World) (cts : List CT) (cs : List Value) (vs : List V) : Prop :=
  cs.length = cts.length ∧ vs.length = cts.length ∧ ∀ (i : Nat) (u : Value) (v : V) (ct : CT), cs[i]? = some u → vs[i]? = some v → cts[i]? = some ct → u.oneCell' = true ∧ RepP ren w noWr v u ∧ HasC ct v
theorem RdC.one {ct : CT} {u : Value} {v : V} (h1 : u.oneCell' = true) (h2 : RepP ren w noWr v u) (h3 : HasC ct v) : RdC ren w [ct] [u] [v] := by
  refine ⟨rfl, rfl, fun i u' v' ct' hu hv hc => ?_⟩
  cases i with
  | zero => simp at hu hv hc; subst hu; subst hv; subst hc; exact ⟨h1, h2, h3⟩
  | succ i => simp at hu
theorem RdC.nil : RdC ren w [] [] [] := ⟨rfl, rfl, fun i u v ct h => by simp at h⟩
theorem RdC.app {c1 c2 : List CT} {a1 a2 : List Value} {b1 b2 : List V} (h1 : RdC ren w c1 a1 b1) (h2 : RdC ren w c2 a2 b2) : RdC ren w (c1 ++ c2) (a1 ++ a2) (b1 ++ b2) := by
  obtain ⟨l1, m1, q1⟩ := h1
  obtain ⟨l2, m2, q2⟩ := h2
  refine ⟨by simp [l1, l2], by simp [m1, m2], fun i u v ct hu hv hc => ?_⟩
  by_cases hi : i < c1.length
  · rw [List.getElem?_append_left (by omega)] at hu hv hc
    exact q1 i u v ct hu hv hc
  · rw [List.getElem?_append_right (by omega)] at hu hv hc
    rw [l1] at hu; rw [m1] at hv
    exact q2 _ u v ct hu hv hc
theorem RdC.row {cts : List CT} {cs : List Value} {vs : List V} (h : RdC ren w cts cs vs) : HasRow cts vs := by
  refine ⟨h.2.1, fun i c ct hc ht => ?_⟩
  have hlt : i < cs.length := by rw [h.1, ← h.2.1]; exact (List.getElem?_eq_some_iff.1 hc).1
  exact (h.2.2 i _ c ct (List.getElem?_eq_getElem hlt) hc ht).2.2
/-- fields, one behind the other -/
theorem reads_fields {f : TypeId → Option (List CT)} {size : TypeId → Nat} {cs : List Value} (rd : ∀ (t : TypeId) (cts : List CT), f t = some cts → ∀ x ∈ ([] : List Nat), True) :
    ∀ (fs : List Field) (off : Nat) (cts : List CT), fieldCT f size fs off = some cts → (∀ x ∈ fs, ∀ a, f x.type = some a → ∃ vs, RdC ren w a ((cs.drop x.offset).take (size x.type)) vs) → ∃ vs, RdC ren w cts ((cs.drop off).take cts.length) vs
  | [], off, cts, h, _ => by
    cases h
    exact ⟨[], by simpa using RdC.nil⟩
  | x :: xs, off, cts, h, H => by
    simp only [fieldCT, Option.bind_eq_bind, Option.bind_eq_some_iff] at h
    obtain ⟨a, ha, h⟩ := h
    split at h
    · rename_i hc
      simp only [Option.bind_eq_some_iff, Option.some.injEq] at h
      obtain ⟨b, hb, rfl⟩ := h
      obtain ⟨vs1, r1⟩ := H x (by simp) a ha
      obtain ⟨vs2, r2⟩ := reads_fields rd xs _ b hb (fun y hy => H y (by simp [hy]))
      refine ⟨vs1 ++ vs2, ?_⟩
      have e : (cs.drop off).take (a ++ b).length = (cs.drop x.offset).take (size x.type) ++ (cs.drop (off + a.length)).take b.length := by
        rw [hc.1, hc.2, List.length_append, List.take_add, List.drop_drop]
      rw [e]
      exact r1.app r2
    · cases h
theorem reads_items {cs : List Value} {c : List CT} : ∀ (n m : Nat), (∀ i, i < n → ∃ vs, RdC ren w c ((cs.drop ((m + i) * c.length)).take c.length) vs) → ∃ vs, RdC ren w (List.replicate n c).flatten ((cs.drop (m * c.length)).take (n * c.length)) vs
  | 0, m, H => ⟨[], by simpa using RdC.nil⟩
  | n + 1, m, H => by
    obtain ⟨vs1, r1⟩ := H 0 (by omega)
    obtain ⟨vs2, r2⟩ := reads_items n (m + 1) (fun i hi => by
      obtain ⟨vs, r⟩ := H (i + 1) (by omega)
      exact ⟨vs, by rw [show m + 1 + i = m + (i + 1) by omega]; exact r⟩)
    refine ⟨vs1 ++ vs2, ?_⟩
    have e : (cs.drop (m * c.length)).take ((n + 1) * c.length) = (cs.drop ((m + 0) * c.length)).take c.length ++ (cs.drop ((m + 1) * c.length)).take (n * c.length) := by
      rw [Nat.add_zero, Nat.add_mul n, Nat.one_mul, Nat.add_comm (n * c.length), List.take_add, List.drop_drop, show (m + 1) * c.length = m * c.length + c.length by rw [Nat.add_mul, Nat.one_mul]]
      rw [show m + 0 = m from rfl]
    rw [e, List.replicate_succ, List.flatten_cons]
    exact r1.app r2
theorem rows_get {α : Type} {n : Nat} : ∀ (es : List (List α)), (∀ e ∈ es, e.length = n) → 0 < n → ∀ (i : Nat), es.flatten[i]? = (es[i / n]?).bind (fun e => e[i % n]?)
  | [], _, _, i => by simp
  | e :: es, h, hn, i => by
    have he := h e (by simp)
    rw [List.flatten_cons]
    by_cases hi : i < n
    · rw [List.getElem?_append_left (by omega), Nat.div_eq_of_lt hi, Nat.mod_eq_of_lt hi]; simp
    · rw [List.getElem?_append_right (by omega), rows_get es (fun x hx => h x (by simp [hx])) hn, he]
      obtain ⟨j, rfl⟩ : ∃ j, i = j + n := ⟨i - n, by omega⟩
      rw [Nat.add_sub_cancel, Nat.add_div_right _ hn, Nat.add_mod_right]
      simp
/-- every type -/
theorem reads_of : ∀ (d : Nat) (t : TypeId) (cts : List CT), cellTys P d t = some cts → ∀ (fuel : Nat) (cs : List Value) (x : DataW H × List MemPlace), DataW.trod enc P w base spare held fuel t cs = some x → ∃ vs, RdC ren w cts cs vs
  | 0, t, cts, h, fuel, cs, x, hx => by cases h
  | d + 1, t, cts, h, fuel, cs, x, hx => by
    unfold cellTys at h
    split at h
    · rename_i ht
      cases h
      obtain ⟨b, rfl, _⟩ := DataW.trod_bool ht hx
      exact ⟨[.sc (.bool b)], .one rfl (.sc _ rfl) (.bool b)⟩
    · rename_i k ht
      cases h
      obtain ⟨n, rfl, _, hw⟩ := DataW.trod_int ht hx
      exact ⟨[.sc (.int k n)], .one rfl (.sc _ rfl) (.int k n hw)⟩
    · rename_i ht
      cases h
      obtain ⟨s, rfl, _, hw⟩ := DataW.trod_string ht hx
      exact ⟨[.sc (.string s)], .one rfl (.sc _ rfl) (.str s hw)⟩
    · rename_i e ht
      simp only [Option.bind_eq_bind, Option.bind_eq_some_iff] at h
      obtain ⟨c, hc, h⟩ := h
      split at h
      · rename_i hsz
        obtain ⟨hsz, hpos⟩ := hsz
        cases h
        rcases open_slice ht hx with ⟨rfl, _⟩ | ⟨a, len, cap, m, n, D, Pl, rfl, _, hl, hm, hmm, _, hi⟩
        · refine ⟨[.sl c.length []], .one rfl (.sl _ [] none 0 (fun _ => undef) (Nat.le_refl _) (by simp) 0 0 (by simp) (by simp) (by simp) (by simp)) (.sl c [] (by simp) (by simp) (by simp))⟩
        · have hlm : len ≤ m := by rw [hmm]; split <;> omega
          have each : ∀ i, i < len → ∃ (us : List Value) (vs : List V), RdC ren w c us vs ∧ ∀ j, j < c.length → w.cell? ((a.add (i * c.length)).add j) = us[j]? := by
            intro i hil
            obtain ⟨cs', h1, h2⟩ := hi i (by omega)
            rw [hsz] at h1
            obtain ⟨_, hcl, hat⟩ := World.cells?_some h1
            obtain ⟨vs, r⟩ := reads_of d e c hc _ _ _ h2
            exact ⟨cs', vs, r, hat⟩
          -- the rows
          have hex : ∃ (us : Nat → List Value) (vs : Nat → List V), ∀ i, i < len → RdC ren w c (us i) (vs i) ∧ ∀ j, j < c.length → w.cell? ((a.add (i * c.length)).add j) = (us i)[j]? := by
            have : ∀ i, ∃ p : List Value × List V, i < len → RdC ren w c p.1 p.2 ∧ ∀ j, j < c.length → w.cell? ((a.add (i * c.length)).add j) = p.1[j]? := by
              intro i
              by_cases hil : i < len
              · obtain ⟨us, vs, q⟩ := each i hil; exact ⟨(us, vs), fun _ => q⟩
              · exact ⟨([], []), fun h => absurd h hil⟩
            refine ⟨fun i => (Classical.choose (this i)).1, fun i => (Classical.choose (this i)).2, fun i hil => Classical.choose_spec (this i) hil⟩
          obtain ⟨us, vs, hrow⟩ := hex
          have hget : ∀ i, i < len → ((List.range len).map vs)[i]? = some (vs i) := fun i hil => by simp [hil]
          have hsz2 : ∀ e ∈ (List.range len).map vs, e.length = c.length := by
            intro e he
            obtain ⟨i, hil, rfl⟩ := List.mem_map.1 he
            exact (hrow i (List.mem_range.1 hil)).1.2.1
          -- a cell
          have cell : ∀ (i : Nat) (v : V), ((List.range len).map vs).flatten[i]? = some v → 0 < c.length ∧ i / c.length < len ∧ (vs (i / c.length))[i % c.length]? = some v ∧ ∃ u, (us (i / c.length))[i % c.length]? = some u ∧ u.oneCell' = true ∧ RepP ren w noWr v u ∧ w.cell? ((a.add (i / c.length * c.length)).add (i % c.length)) = some u := by
            intro i v hv
            have hpos : 0 < c.length := by
              rcases Nat.eq_zero_or_pos c.length with h0 | h0
              · have : ((List.range len).map vs).flatten = [] := by
                  rw [List.flatten_eq_nil_iff]
                  intro l hl'
                  exact List.length_eq_zero_iff.1 ((hsz2 l hl').trans h0)
                rw [this] at hv; simp at hv
              · exact h0
            rw [rows_get _ hsz2 hpos] at hv
            have hlt : i / c.length < len := by
              cases hq : ((List.range len).map vs)[i / c.length]? with
              | none => rw [hq] at hv; simp at hv
              | some e => have := (List.getElem?_eq_some_iff.1 hq).1; simpa using this
            rw [hget _ hlt] at hv
            have hv : (vs (i / c.length))[i % c.length]? = some v := hv
            have hr := hrow _ hlt
            have hm := Nat.mod_lt i hpos
            have hu : (us (i / c.length))[i % c.length]? = some ((us (i / c.length))[i % c.length]'(by rw [hr.1.1]; exact hm)) := List.getElem?_eq_getElem _
            obtain ⟨q1, q2, q3⟩ := hr.1.2.2 _ _ _ _ hu hv (List.getElem?_eq_getElem hm)
            exact ⟨hpos, hlt, hv, _, hu, q1, q2, by rw [hr.2 _ hm]; exact hu⟩
          have spot : ((List.range len).map vs).flatten ≠ [] → a.spot = none := by
            intro hne
            have hl0 : 0 < ((List.range len).map vs).flatten.length := List.length_pos_iff.2 hne
            obtain ⟨_, _, _, u, _, _, _, hcell⟩ := cell 0 _ (List.getElem?_eq_getElem hl0)
            have hcell : w.cell? a = some u := by simpa [Addr.add] using hcell
            unfold World.cell? at hcell
            split at hcell
            · split at hcell
              · cases hcell
              · rename_i hs; simpa using hs
            · cases hcell
          have addr : ((List.range len).map vs).flatten ≠ [] → a = ⟨a.block, a.off, none⟩ := by
            intro hne
            have := spot hne
            cases a; simp_all
          have addto : ∀ i v, ((List.range len).map vs).flatten[i]? = some v → (a.add (i / c.length * c.length)).add (i % c.length) = ⟨a.block, a.off + i, none⟩ := by
            intro i v hv
            have hne : ((List.range len).map vs).flatten ≠ [] := by intro h0; rw [h0] at hv; simp at hv
            rw [addr hne, add_mk, add_mk]
            have := Nat.div_add_mod i c.length
            rw [Nat.mul_comm] at this
            show (⟨a.block, a.off + i / c.length * c.length + i % c.length, none⟩ : Addr) = ⟨a.block, a.off + i, none⟩
            congr 1; omega
          have hcap : len ≤ maxLen := by omega
          have hlen : ((List.range len).map vs).length = len := by simp
          have rp : RepP ren w noWr (.sl c.length ((List.range len).map vs)) (.slice (some a) ((List.range len).map vs).length cap) := by
            by_cases hne : ((List.range len).map vs).flatten = []
            · -- no cell at all
              have : (List.range len).map vs = [] := by
                cases hes : (List.range len).map vs with
                | nil => rfl
                | cons e es =>
                  have h1 := hsz2 e (by rw [hes]; simp)
                  rw [hes, List.flatten_cons, List.append_eq_nil_iff] at hne
                  rw [hne.1] at h1
                  simp at h1; omega
              rw [this]
              exact .sl _ [] (some a) cap (fun _ => undef) (Nat.zero_le _) (by simp) 0 0 (by simp) (by simp) (by simp) (by simp)
            · refine .sl _ _ (some a) cap (fun i => (w.cell? ⟨a.block, a.off + i, none⟩).getD undef) (by rw [hlen]; exact hl) hsz2 a.block a.off (fun _ => by rw [← addr hne]) (fun i v hv => ?_) (fun i v hv => ?_) (fun i v hv => ?_) <;>
                (obtain ⟨hpos, hlt, hv', u, hu, q1, q2, hcell⟩ := cell i v hv
                 rw [addto i v hv] at hcell
                 simp only [hcell, Option.getD_some])
              · exact ⟨fun h => h, trivial⟩
              · exact q1
              · exact q2
          refine ⟨[.sl c.length ((List.range len).map vs)], .one rfl (by rw [hlen] at rp; exact rp) (.sl c _ (by rw [hlen]; exact hcap) hsz2 (fun e he i v ct hv hct => ?_))⟩
          obtain ⟨q, hq, rfl⟩ := List.mem_map.1 he
          exact (hrow q (List.mem_range.1 hq)).1.row.2 i v ct hv hct
      · cases h
    · rename_i n e ht
      simp only [Option.bind_eq_bind, Option.bind_eq_some_iff] at h
      obtain ⟨c, hc, h⟩ := h
      split at h
      · rename_i hsz
        cases h
        obtain ⟨xs, m, _, _, hl, hxl, hi⟩ := DataW.trod_array ht hx
        have := reads_items (ren := ren) (w := w) (cs := cs) (c := c) n 0 (fun i hin => by
          have := hi i hin
          rw [List.getElem?_eq_getElem (by omega)] at this
          rw [hsz.1] at this
          obtain ⟨vs, r⟩ := reads_of d e c hc _ _ _ this
          exact ⟨vs, by rw [Nat.zero_add]; exact r⟩)
        rw [Nat.zero_mul, List.drop_zero, List.take_of_length_le (by omega)] at this
        exact this
      · cases h
    · rename_i fs ht
      simp only [Option.bind_eq_bind, Option.bind_eq_some_iff] at h
      obtain ⟨c, hc, h⟩ := h
      split at h
      · rename_i hsz
        cases h
        obtain ⟨xs, m, _, _, hl, hxl, hi⟩ := DataW.trod_struct ht hx
        have := reads_fields (ren := ren) (w := w) (cs := cs) (fun _ _ _ _ h => by cases h) fs.toList 0 cts hc (fun y hy a ha => by
          obtain ⟨i, hil, rfl⟩ := List.getElem_of_mem hy
          have hil' : i < fs.size := by simpa using hil
          have := hi i fs[i] (Array.getElem?_eq_getElem hil')
          rw [List.getElem?_eq_getElem (by omega)] at this
          exact reads_of d _ a ha _ _ _ (by simpa using this))
        rw [List.drop_zero, List.take_of_length_le (by omega)] at this
        exact this
      · cases h
    · cases h
/-- an argument -/
theorem arg_agg {r : Reach} {b0 : Nat} {t : TypeId} {v : Value} {dd : DataW H} {p : List MemPlace} {cts : List CT} {d : Nat} (hagg : aggT P t = some true) (hv : Value.okWide P w r b0 t v) (h : DataW.Trod enc P w base spare held t v dd p) (hc : cellTys P d t = some cts) :
    ∃ vs, HasRow cts vs ∧ RepP ren w noWr (.agg vs) v := by
  obtain ⟨fuel, hf⟩ := h
  obtain ⟨vs, rd⟩ := reads_of (ren := ren) d t cts hc _ _ _ hf
  have : ∃ us : Array Value, v = .agg us := by
    unfold aggT at hagg
    cases hu : P.underlying t with
    | none => simp [hu] at hagg
    | some T =>
      simp only [Value.okWide, hu] at hv
      cases T <;> simp [hu] at hagg
      · obtain ⟨us, h1, _⟩ := hv; exact ⟨us, h1⟩
      · obtain ⟨us, h1, _⟩ := hv; exact ⟨us, h1⟩
  obtain ⟨us, rfl⟩ := this
  have rd : RdC ren w cts us.toList vs := rd
  refine ⟨vs, rd.row, ?_⟩
  have key := RepP.agg (ren := ren) (w := w) (Wr := noWr) vs us.toList (by rw [rd.1, rd.2.1]) (fun i c u hc hu => (rd.2.2 i u c _ hu hc (List.getElem?_eq_getElem (by rw [← rd.1]; exact (List.getElem?_eq_some_iff.1 hu).1))).2.1) (fun u hu => by
    obtain ⟨i, hi, rfl⟩ := List.getElem_of_mem hu
    have h1 : i < vs.length := by rw [rd.2.1, ← rd.1]; exact hi
    have h2 : i < cts.length := by rw [← rd.1]; exact hi
    exact (rd.2.2 i _ _ _ (List.getElem?_eq_getElem hi) (List.getElem?_eq_getElem h1) (List.getElem?_eq_getElem h2)).1)
  simpa using key
theorem arg_one {r : Reach} {b0 : Nat} {t : TypeId} {v : Value} {dd : DataW H} {p : List MemPlace} {ct : CT} {d : Nat} (hv1 : v.cells = #[v]) (h : DataW.Trod enc P w base spare held t v dd p) (hc : cellTys P d t = some [ct]) :
    ∃ x, HasC ct x ∧ RepP ren w noWr x v := by
  obtain ⟨fuel, hf⟩ := h
  obtain ⟨vs, rd⟩ := reads_of (ren := ren) d t [ct] hc _ _ _ hf
  rw [hv1] at rd
  have hl : vs.length = 1 := rd.2.1
  obtain ⟨x, rfl⟩ : ∃ x, vs = [x] := by
    match vs, hl with
    | [x], _ => exact ⟨x, rfl⟩
  obtain ⟨q1, q2, q3⟩ := rd.2.2 0 v x ct rfl rfl rfl
  exact ⟨x, q3, q2⟩
theorem open_str0 {r : Reach} {b0 : Nat} {t : TypeId} {v : Value} {dd : DataW H} {p : List MemPlace} (ht : P.underlying t = some .string) (hv : Value.okWide P w r b0 t v) (h : DataW.Trod enc P w base spare held t v dd p) : ∃ s, v = .string s ∧ s.size ≤ maxLen := by
  obtain ⟨fuel, hf⟩ := h
  obtain ⟨s, hs, _, hl⟩ := DataW.trod_string ht hf
  have : ∃ s', v = .string s' := by
    simp only [Value.okWide, ht, Cell.okWide] at hv
    cases v <;> simp_all [Cell.ok]
  obtain ⟨s', rfl⟩ := this
  have : s' = s := by simpa [Value.cells] using hs
  subst this
  exact ⟨s', rfl, hl⟩
/-! what a cell of a type is -/
theorem HasC.int_inv {k : IntKind} {v : V} (h : HasC (.int k) v) : ∃ n, v = .sc (.int k n) ∧ (Lit.int k n).wf = true := by
  cases h with | int _ n h => exact ⟨n, rfl, h⟩
theorem HasC.bool_inv {v : V} (h : HasC .bool v) : ∃ b, v = .sc (.bool b) := by
  cases h with | bool b => exact ⟨b, rfl⟩
theorem HasC.str_inv {v : V} (h : HasC .str v) : ∃ s, v = .sc (.string s) ∧ s.size ≤ maxLen := by
  cases h with | str s h => exact ⟨s, rfl, h⟩
theorem HasC.sl_inv {cs : List CT} {v : V} (h : HasC (.sl cs) v) : ∃ es, v = .sl cs.length es ∧ es.length ≤ maxLen ∧ ∀ e ∈ es, HasRow cs e := by
  cases h with | sl _ es hl h0 h => exact ⟨es, rfl, hl, fun e he => ⟨h0 e he, h e he⟩⟩
end
/-- the answer 'true' -/
def kTrue : V → Bor → Option Bool := fun v _ => match v with
  | .sc (.bool true) => some true
  | _ => none
theorem kTrue_inv {v : V} {b : Bor} (h : kTrue v b = some true) : v = .sc (.bool true) := by
  unfold kTrue at h
  split at h
  · rfl
  · cases h
end Go.Proofs.Ythplooifbkopgaa
