/- The words of the printed functions on plain data. Nothing of the program is in here. -/
import Derived.Test.YthplooifbkopgaaA1
import Derived.Test.YthplooifbkopgaaC2
namespace Go.Proofs.Ythplooifbkopgaa
set_option linter.unusedVariables false
set_option linter.unusedSimpArgs false
section
variable {β : Type}
theorem lt_eq {α : Type} (a : α) (k : α → Option β) : lt a k = k a := Eq.trans rfl rfl
theorem chk_true {p : Prop} {inst : Decidable p} (h : p) (k : Option β) : @chk β p inst k = k := if_pos h
theorem chk_T {inst : Decidable True} (k : Option β) : @chk β True inst k = k := if_pos trivial
theorem ifb_true (a b : Option β) : ifb true a b = a := rfl
theorem ifb_false (a b : Option β) : ifb false a b = b := rfl
theorem ifb_dec {p : Prop} {inst : Decidable p} (a b : Option β) : ifb (@decide p inst) a b = if p then a else b := by
  by_cases h : p <;> simp [ifb, h]
theorem ifb_pos {p : Prop} {inst : Decidable p} (h : p) (a b : Option β) : ifb (@decide p inst) a b = a := by rw [ifb_dec, if_pos h]
theorem ifb_neg {p : Prop} {inst : Decidable p} (h : ¬ p) (a b : Option β) : ifb (@decide p inst) a b = b := by rw [ifb_dec, if_neg h]
theorem ifb_beq_pos {x y : Int} (h : x = y) (a b : Option β) : ifb (x == y) a b = a := by subst h; simp [ifb]
theorem ifb_beq_neg {x y : Int} (h : x ≠ y) (a b : Option β) : ifb (x == y) a b = b := by rw [beq_eq_false_iff_ne.2 h]; rfl
theorem cI_some {kd : IntKind} {cs : List V} {off : Nat} {n : Int} (h : cs[off]? = some (.sc (.int kd n))) (k : Int → Option β) : cI kd cs off k = k n := by
  simp [cI, cellAt, h, aI]
theorem cB_some {cs : List V} {off : Nat} {b : Bool} (h : cs[off]? = some (.sc (.bool b))) (k : Bool → Option β) : cB cs off k = k b := by
  simp [cB, cellAt, h, aB]
theorem cL_some {sz : Nat} {cs : List V} {off : Nat} {es : List (List V)} (h : cs[off]? = some (.sl sz es)) (k : List (List V) → Option β) : cL sz cs off k = k es := by
  simp [cL, cellAt, h, aL]
theorem cLd_some {sz : Nat} {cs : List V} {off : Nat} {es : List (List V)} (h : cs[off]? = some (.sl sz es)) (k : List (List V) → Option β) : cLd sz cs off k = k es := by
  simp [cLd, cellAt, h, aLd]
theorem idx_some {es : List (List V)} {j : Int} {c : List V} (h0 : 0 ≤ j) (h : es[j.toNat]? = some c) (k : List V → Option β) : idx es j k = k c := by
  simp [idx, h0, h]
theorem idx_nat {es : List (List V)} {j : Nat} {c : List V} (h : es[j]? = some c) (k : List V → Option β) : idx es (j : Int) k = k c :=
  idx_some (Int.natCast_nonneg j) (by simpa using h) k
end
/-! numbers -/
theorem wrap_i64 {n : Int} (h1 : -9223372036854775808 ≤ n) (h2 : n ≤ 9223372036854775807) : IntKind.wrap .i64 n = n := IntWalk.i64_in _ ⟨h1, h2⟩
theorem wrap_u {k : IntKind} {n : Int} (hk : k.signed = false) (h1 : 0 ≤ n) (h2 : n < 2 ^ k.bits) : IntKind.wrap k n = n := by
  unfold IntKind.wrap
  simp only [hk, Bool.false_and, Bool.false_eq_true, if_false]
  exact Int.emod_eq_of_lt h1 h2
theorem wrap_u64 {n : Int} (h1 : 0 ≤ n) (h2 : n ≤ 18446744073709551615) : IntKind.wrap .u64 n = n := wrap_u rfl h1 (Int.lt_of_le_of_lt h2 (by decide))
theorem wrap_u32 {n : Int} (h1 : 0 ≤ n) (h2 : n ≤ 4294967295) : IntKind.wrap .u32 n = n := wrap_u rfl h1 (Int.lt_of_le_of_lt h2 (by decide))
theorem wrap_u16 {n : Int} (h1 : 0 ≤ n) (h2 : n ≤ 65535) : IntKind.wrap .u16 n = n := wrap_u rfl h1 (Int.lt_of_le_of_lt h2 (by decide))
theorem wrap_u8 {n : Int} (h1 : 0 ≤ n) (h2 : n ≤ 255) : IntKind.wrap .u8 n = n := wrap_u rfl h1 (Int.lt_of_le_of_lt h2 (by decide))
theorem wf_i64 {n : Int} (h : (Lit.int .i64 n).wf = true) : -9223372036854775808 ≤ n ∧ n ≤ 9223372036854775807 := by
  simpa [Lit.wf, IntKind.min, IntKind.max, IntKind.signed, IntKind.bits] using h
theorem wf_u64 {n : Int} (h : (Lit.int .u64 n).wf = true) : 0 ≤ n ∧ n ≤ 18446744073709551615 := by
  simpa [Lit.wf, IntKind.min, IntKind.max, IntKind.signed, IntKind.bits] using h
theorem wf_u32 {n : Int} (h : (Lit.int .u32 n).wf = true) : 0 ≤ n ∧ n ≤ 4294967295 := by
  simpa [Lit.wf, IntKind.min, IntKind.max, IntKind.signed, IntKind.bits] using h
theorem wf_u16 {n : Int} (h : (Lit.int .u16 n).wf = true) : 0 ≤ n ∧ n ≤ 65535 := by
  simpa [Lit.wf, IntKind.min, IntKind.max, IntKind.signed, IntKind.bits] using h
theorem wf_u8 {n : Int} (h : (Lit.int .u8 n).wf = true) : 0 ≤ n ∧ n ≤ 255 := by
  simpa [Lit.wf, IntKind.min, IntKind.max, IntKind.signed, IntKind.bits] using h
/-! lists of numbers -/
def ints (k : IntKind) (l : List Int) : List (List V) := l.map fun n => [.sc (.int k n)]
theorem ints_len (k : IntKind) (l : List Int) : (ints k l).length = l.length := by simp [ints]
theorem ints_get (k : IntKind) {l : List Int} {i : Nat} (h : i < l.length) : (ints k l)[i]? = some [.sc (.int k l[i])] := by simp [ints, h]
theorem ints_drop (k : IntKind) (l : List Int) (i : Nat) : (ints k l).drop i = ints k (l.drop i) := by simp [ints, List.map_drop]
theorem ints_take (k : IntKind) (l : List Int) (i : Nat) : (ints k l).take i = ints k (l.take i) := by simp [ints, List.map_take]
theorem ints_app (k : IntKind) (l m : List Int) : ints k l ++ ints k m = ints k (l ++ m) := by simp [ints]
theorem HasRow.int1 {k : IntKind} {e : List V} (h : HasRow [.int k] e) : ∃ n, e = [.sc (.int k n)] ∧ (Lit.int k n).wf = true := by
  obtain ⟨h1, h2⟩ := h
  match e, h1 with
  | [v], _ =>
    obtain ⟨n, rfl, hn⟩ := (h2 0 v _ rfl rfl).int_inv
    exact ⟨n, rfl, hn⟩
theorem ints_of {k : IntKind} : ∀ {es : List (List V)}, (∀ e ∈ es, HasRow [.int k] e) → ∃ l : List Int, es = ints k l ∧ ∀ n ∈ l, (Lit.int k n).wf = true
  | [], _ => ⟨[], rfl, by simp⟩
  | e :: es, h => by
    obtain ⟨n, rfl, hn⟩ := (h e (by simp)).int1
    obtain ⟨l, rfl, hl⟩ := ints_of (es := es) (fun x hx => h x (by simp [hx]))
    exact ⟨n :: l, rfl, by simpa [hn] using hl⟩
/-- a row of numbers of one kind -/
def row (k : IntKind) (l : List Int) : List V := l.map fun n => .sc (.int k n)
theorem row_len (k : IntKind) (l : List Int) : (row k l).length = l.length := by simp [row]
theorem row_of {k : IntKind} : ∀ {n : Nat} {vs : List V}, HasRow (List.replicate n (.int k)) vs → ∃ l : List Int, vs = row k l ∧ l.length = n ∧ ∀ x ∈ l, (Lit.int k x).wf = true
  | 0, vs, h => by
    have : vs = [] := List.length_eq_zero_iff.1 (by simpa using h.1)
    subst this
    exact ⟨[], rfl, rfl, by simp⟩
  | n + 1, [], h => by have := h.1; simp at this
  | n + 1, v :: vs, h => by
    obtain ⟨x, rfl, hx⟩ := (h.2 0 v (.int k) rfl (by simp [List.replicate_succ])).int_inv
    obtain ⟨l, rfl, hl, hw⟩ := row_of (n := n) (vs := vs) ⟨by have := h.1; simpa using this, fun i c ct hc hct => h.2 (i + 1) c ct (by simpa using hc) (by simpa [List.replicate_succ] using hct)⟩
    exact ⟨x :: l, rfl, by simp [hl], by simpa [hx] using hw⟩
theorem chunks_row (k : IntKind) : ∀ (n : Nat) (l : List Int), n ≤ l.length → chunks 1 n (row k l) = ints k (l.take n)
  | 0, l, _ => by simp [chunks, ints]
  | n + 1, [], h => by simp at h
  | n + 1, x :: l, h => by
    have := chunks_row k n l (by simpa using h)
    simp only [row] at this
    simp [chunks, row, ints, this]
theorem row_drop (k : IntKind) (l : List Int) (i : Nat) : (row k l).drop i = row k (l.drop i) := by simp [row, List.map_drop]
theorem row_take (k : IntKind) (l : List Int) (i : Nat) : (row k l).take i = row k (l.take i) := by simp [row, List.map_take]
end Go.Proofs.Ythplooifbkopgaa
