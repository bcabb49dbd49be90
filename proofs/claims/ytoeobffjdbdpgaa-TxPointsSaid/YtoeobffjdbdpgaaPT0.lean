/- Transactions as plain data. Nothing of the program is in here. -/
import Derived.Test.YtoeobffjdbdpgaaP1
namespace Go.Proofs.Ytoeobffjdbdpgaa
set_option linter.unusedVariables false
set_option linter.unusedSimpArgs false
/-- byte strings in a row -/
def items (w : List (List Int)) : List (List V) := w.map fun b => [V.sl 1 (ints .u8 b)]
/-- an input: 32 bytes and an index; the sequence; the witness -/
structure Inp where
  pv : List Int
  seq : Int
  wit : List (List Int)
structure Outp where
  val : Int
  scr : List Int
structure TxT where
  ver : Int
  ins : List Inp
  outs : List Outp
  lock : Int
def irow (x : Inp) : List V := [V.sc (.int .u8 (x.pv.getD 0 0)), V.sc (.int .u8 (x.pv.getD 1 0)), V.sc (.int .u8 (x.pv.getD 2 0)), V.sc (.int .u8 (x.pv.getD 3 0)), V.sc (.int .u8 (x.pv.getD 4 0)), V.sc (.int .u8 (x.pv.getD 5 0)), V.sc (.int .u8 (x.pv.getD 6 0)), V.sc (.int .u8 (x.pv.getD 7 0)), V.sc (.int .u8 (x.pv.getD 8 0)), V.sc (.int .u8 (x.pv.getD 9 0)), V.sc (.int .u8 (x.pv.getD 10 0)), V.sc (.int .u8 (x.pv.getD 11 0)), V.sc (.int .u8 (x.pv.getD 12 0)), V.sc (.int .u8 (x.pv.getD 13 0)), V.sc (.int .u8 (x.pv.getD 14 0)), V.sc (.int .u8 (x.pv.getD 15 0)), V.sc (.int .u8 (x.pv.getD 16 0)), V.sc (.int .u8 (x.pv.getD 17 0)), V.sc (.int .u8 (x.pv.getD 18 0)), V.sc (.int .u8 (x.pv.getD 19 0)), V.sc (.int .u8 (x.pv.getD 20 0)), V.sc (.int .u8 (x.pv.getD 21 0)), V.sc (.int .u8 (x.pv.getD 22 0)), V.sc (.int .u8 (x.pv.getD 23 0)), V.sc (.int .u8 (x.pv.getD 24 0)), V.sc (.int .u8 (x.pv.getD 25 0)), V.sc (.int .u8 (x.pv.getD 26 0)), V.sc (.int .u8 (x.pv.getD 27 0)), V.sc (.int .u8 (x.pv.getD 28 0)), V.sc (.int .u8 (x.pv.getD 29 0)), V.sc (.int .u8 (x.pv.getD 30 0)), V.sc (.int .u8 (x.pv.getD 31 0)), V.sc (.int .u32 (x.pv.getD 32 0)), V.sc (.int .u32 x.seq), V.sl 1 (items x.wit)]
def orow (o : Outp) : List V := [V.sc (.int .i64 o.val), V.sl 1 (ints .u8 o.scr)]
def trow (t : TxT) : List V := [V.sc (.int .u32 t.ver), V.sl 35 (t.ins.map irow), V.sl 2 (t.outs.map orow), V.sc (.int .u32 t.lock)]
section
variable {β : Type}
theorem irow_c0 (x : Inp) (k : Int → Option β) : cI .u8 (irow x) 0 k = k (x.pv.getD 0 0) := cI_some rfl k
theorem irow_t0 (x : Inp) (k : Int → Option β) : cI .u8 (List.take 35 (irow x)) 0 k = k (x.pv.getD 0 0) := cI_some rfl k
theorem irow_c1 (x : Inp) (k : Int → Option β) : cI .u8 (irow x) 1 k = k (x.pv.getD 1 0) := cI_some rfl k
theorem irow_t1 (x : Inp) (k : Int → Option β) : cI .u8 (List.take 35 (irow x)) 1 k = k (x.pv.getD 1 0) := cI_some rfl k
theorem irow_c2 (x : Inp) (k : Int → Option β) : cI .u8 (irow x) 2 k = k (x.pv.getD 2 0) := cI_some rfl k
theorem irow_t2 (x : Inp) (k : Int → Option β) : cI .u8 (List.take 35 (irow x)) 2 k = k (x.pv.getD 2 0) := cI_some rfl k
theorem irow_c3 (x : Inp) (k : Int → Option β) : cI .u8 (irow x) 3 k = k (x.pv.getD 3 0) := cI_some rfl k
theorem irow_t3 (x : Inp) (k : Int → Option β) : cI .u8 (List.take 35 (irow x)) 3 k = k (x.pv.getD 3 0) := cI_some rfl k
theorem irow_c4 (x : Inp) (k : Int → Option β) : cI .u8 (irow x) 4 k = k (x.pv.getD 4 0) := cI_some rfl k
theorem irow_t4 (x : Inp) (k : Int → Option β) : cI .u8 (List.take 35 (irow x)) 4 k = k (x.pv.getD 4 0) := cI_some rfl k
theorem irow_c5 (x : Inp) (k : Int → Option β) : cI .u8 (irow x) 5 k = k (x.pv.getD 5 0) := cI_some rfl k
theorem irow_t5 (x : Inp) (k : Int → Option β) : cI .u8 (List.take 35 (irow x)) 5 k = k (x.pv.getD 5 0) := cI_some rfl k
theorem irow_c6 (x : Inp) (k : Int → Option β) : cI .u8 (irow x) 6 k = k (x.pv.getD 6 0) := cI_some rfl k
theorem irow_t6 (x : Inp) (k : Int → Option β) : cI .u8 (List.take 35 (irow x)) 6 k = k (x.pv.getD 6 0) := cI_some rfl k
theorem irow_c7 (x : Inp) (k : Int → Option β) : cI .u8 (irow x) 7 k = k (x.pv.getD 7 0) := cI_some rfl k
theorem irow_t7 (x : Inp) (k : Int → Option β) : cI .u8 (List.take 35 (irow x)) 7 k = k (x.pv.getD 7 0) := cI_some rfl k
theorem irow_c8 (x : Inp) (k : Int → Option β) : cI .u8 (irow x) 8 k = k (x.pv.getD 8 0) := cI_some rfl k
theorem irow_t8 (x : Inp) (k : Int → Option β) : cI .u8 (List.take 35 (irow x)) 8 k = k (x.pv.getD 8 0) := cI_some rfl k
theorem irow_c9 (x : Inp) (k : Int → Option β) : cI .u8 (irow x) 9 k = k (x.pv.getD 9 0) := cI_some rfl k
theorem irow_t9 (x : Inp) (k : Int → Option β) : cI .u8 (List.take 35 (irow x)) 9 k = k (x.pv.getD 9 0) := cI_some rfl k
theorem irow_c10 (x : Inp) (k : Int → Option β) : cI .u8 (irow x) 10 k = k (x.pv.getD 10 0) := cI_some rfl k
theorem irow_t10 (x : Inp) (k : Int → Option β) : cI .u8 (List.take 35 (irow x)) 10 k = k (x.pv.getD 10 0) := cI_some rfl k
theorem irow_c11 (x : Inp) (k : Int → Option β) : cI .u8 (irow x) 11 k = k (x.pv.getD 11 0) := cI_some rfl k
theorem irow_t11 (x : Inp) (k : Int → Option β) : cI .u8 (List.take 35 (irow x)) 11 k = k (x.pv.getD 11 0) := cI_some rfl k
theorem irow_c12 (x : Inp) (k : Int → Option β) : cI .u8 (irow x) 12 k = k (x.pv.getD 12 0) := cI_some rfl k
theorem irow_t12 (x : Inp) (k : Int → Option β) : cI .u8 (List.take 35 (irow x)) 12 k = k (x.pv.getD 12 0) := cI_some rfl k
theorem irow_c13 (x : Inp) (k : Int → Option β) : cI .u8 (irow x) 13 k = k (x.pv.getD 13 0) := cI_some rfl k
theorem irow_t13 (x : Inp) (k : Int → Option β) : cI .u8 (List.take 35 (irow x)) 13 k = k (x.pv.getD 13 0) := cI_some rfl k
theorem irow_c14 (x : Inp) (k : Int → Option β) : cI .u8 (irow x) 14 k = k (x.pv.getD 14 0) := cI_some rfl k
theorem irow_t14 (x : Inp) (k : Int → Option β) : cI .u8 (List.take 35 (irow x)) 14 k = k (x.pv.getD 14 0) := cI_some rfl k
theorem irow_c15 (x : Inp) (k : Int → Option β) : cI .u8 (irow x) 15 k = k (x.pv.getD 15 0) := cI_some rfl k
theorem irow_t15 (x : Inp) (k : Int → Option β) : cI .u8 (List.take 35 (irow x)) 15 k = k (x.pv.getD 15 0) := cI_some rfl k
theorem irow_c16 (x : Inp) (k : Int → Option β) : cI .u8 (irow x) 16 k = k (x.pv.getD 16 0) := cI_some rfl k
theorem irow_t16 (x : Inp) (k : Int → Option β) : cI .u8 (List.take 35 (irow x)) 16 k = k (x.pv.getD 16 0) := cI_some rfl k
theorem irow_c17 (x : Inp) (k : Int → Option β) : cI .u8 (irow x) 17 k = k (x.pv.getD 17 0) := cI_some rfl k
theorem irow_t17 (x : Inp) (k : Int → Option β) : cI .u8 (List.take 35 (irow x)) 17 k = k (x.pv.getD 17 0) := cI_some rfl k
theorem irow_c18 (x : Inp) (k : Int → Option β) : cI .u8 (irow x) 18 k = k (x.pv.getD 18 0) := cI_some rfl k
theorem irow_t18 (x : Inp) (k : Int → Option β) : cI .u8 (List.take 35 (irow x)) 18 k = k (x.pv.getD 18 0) := cI_some rfl k
theorem irow_c19 (x : Inp) (k : Int → Option β) : cI .u8 (irow x) 19 k = k (x.pv.getD 19 0) := cI_some rfl k
theorem irow_t19 (x : Inp) (k : Int → Option β) : cI .u8 (List.take 35 (irow x)) 19 k = k (x.pv.getD 19 0) := cI_some rfl k
theorem irow_c20 (x : Inp) (k : Int → Option β) : cI .u8 (irow x) 20 k = k (x.pv.getD 20 0) := cI_some rfl k
theorem irow_t20 (x : Inp) (k : Int → Option β) : cI .u8 (List.take 35 (irow x)) 20 k = k (x.pv.getD 20 0) := cI_some rfl k
theorem irow_c21 (x : Inp) (k : Int → Option β) : cI .u8 (irow x) 21 k = k (x.pv.getD 21 0) := cI_some rfl k
theorem irow_t21 (x : Inp) (k : Int → Option β) : cI .u8 (List.take 35 (irow x)) 21 k = k (x.pv.getD 21 0) := cI_some rfl k
theorem irow_c22 (x : Inp) (k : Int → Option β) : cI .u8 (irow x) 22 k = k (x.pv.getD 22 0) := cI_some rfl k
theorem irow_t22 (x : Inp) (k : Int → Option β) : cI .u8 (List.take 35 (irow x)) 22 k = k (x.pv.getD 22 0) := cI_some rfl k
theorem irow_c23 (x : Inp) (k : Int → Option β) : cI .u8 (irow x) 23 k = k (x.pv.getD 23 0) := cI_some rfl k
theorem irow_t23 (x : Inp) (k : Int → Option β) : cI .u8 (List.take 35 (irow x)) 23 k = k (x.pv.getD 23 0) := cI_some rfl k
theorem irow_c24 (x : Inp) (k : Int → Option β) : cI .u8 (irow x) 24 k = k (x.pv.getD 24 0) := cI_some rfl k
theorem irow_t24 (x : Inp) (k : Int → Option β) : cI .u8 (List.take 35 (irow x)) 24 k = k (x.pv.getD 24 0) := cI_some rfl k
theorem irow_c25 (x : Inp) (k : Int → Option β) : cI .u8 (irow x) 25 k = k (x.pv.getD 25 0) := cI_some rfl k
theorem irow_t25 (x : Inp) (k : Int → Option β) : cI .u8 (List.take 35 (irow x)) 25 k = k (x.pv.getD 25 0) := cI_some rfl k
theorem irow_c26 (x : Inp) (k : Int → Option β) : cI .u8 (irow x) 26 k = k (x.pv.getD 26 0) := cI_some rfl k
theorem irow_t26 (x : Inp) (k : Int → Option β) : cI .u8 (List.take 35 (irow x)) 26 k = k (x.pv.getD 26 0) := cI_some rfl k
theorem irow_c27 (x : Inp) (k : Int → Option β) : cI .u8 (irow x) 27 k = k (x.pv.getD 27 0) := cI_some rfl k
theorem irow_t27 (x : Inp) (k : Int → Option β) : cI .u8 (List.take 35 (irow x)) 27 k = k (x.pv.getD 27 0) := cI_some rfl k
theorem irow_c28 (x : Inp) (k : Int → Option β) : cI .u8 (irow x) 28 k = k (x.pv.getD 28 0) := cI_some rfl k
theorem irow_t28 (x : Inp) (k : Int → Option β) : cI .u8 (List.take 35 (irow x)) 28 k = k (x.pv.getD 28 0) := cI_some rfl k
theorem irow_c29 (x : Inp) (k : Int → Option β) : cI .u8 (irow x) 29 k = k (x.pv.getD 29 0) := cI_some rfl k
theorem irow_t29 (x : Inp) (k : Int → Option β) : cI .u8 (List.take 35 (irow x)) 29 k = k (x.pv.getD 29 0) := cI_some rfl k
theorem irow_c30 (x : Inp) (k : Int → Option β) : cI .u8 (irow x) 30 k = k (x.pv.getD 30 0) := cI_some rfl k
theorem irow_t30 (x : Inp) (k : Int → Option β) : cI .u8 (List.take 35 (irow x)) 30 k = k (x.pv.getD 30 0) := cI_some rfl k
theorem irow_c31 (x : Inp) (k : Int → Option β) : cI .u8 (irow x) 31 k = k (x.pv.getD 31 0) := cI_some rfl k
theorem irow_t31 (x : Inp) (k : Int → Option β) : cI .u8 (List.take 35 (irow x)) 31 k = k (x.pv.getD 31 0) := cI_some rfl k
theorem irow_c32 (x : Inp) (k : Int → Option β) : cI .u32 (irow x) 32 k = k (x.pv.getD 32 0) := cI_some rfl k
theorem irow_t32 (x : Inp) (k : Int → Option β) : cI .u32 (List.take 35 (irow x)) 32 k = k (x.pv.getD 32 0) := cI_some rfl k
theorem irow_c33 (x : Inp) (k : Int → Option β) : cI .u32 (irow x) 33 k = k x.seq := cI_some rfl k
theorem irow_t33 (x : Inp) (k : Int → Option β) : cI .u32 (List.take 35 (irow x)) 33 k = k x.seq := cI_some rfl k
theorem irow_c34 (x : Inp) (k : List (List V) → Option β) : cL 1 (irow x) 34 k = k (items x.wit) := cL_some rfl k
theorem irow_t34 (x : Inp) (k : List (List V) → Option β) : cL 1 (List.take 35 (irow x)) 34 k = k (items x.wit) := cL_some rfl k
theorem orow_c0 (x : Outp) (k : Int → Option β) : cI .i64 (orow x) 0 k = k x.val := cI_some rfl k
theorem orow_c1 (x : Outp) (k : List (List V) → Option β) : cL 1 (orow x) 1 k = k (ints .u8 x.scr) := cL_some rfl k
theorem orow_t0 (x : Outp) (k : Int → Option β) : cI .i64 (List.take 2 (orow x)) 0 k = k x.val := cI_some rfl k
theorem orow_t1 (x : Outp) (k : List (List V) → Option β) : cL 1 (List.take 2 (orow x)) 1 k = k (ints .u8 x.scr) := cL_some rfl k
theorem trow_c0 (x : TxT) (k : Int → Option β) : cI .u32 (trow x) 0 k = k x.ver := cI_some rfl k
theorem trow_c1 (x : TxT) (k : List (List V) → Option β) : cL 35 (trow x) 1 k = k (x.ins.map irow) := cL_some rfl k
theorem trow_c2 (x : TxT) (k : List (List V) → Option β) : cL 2 (trow x) 2 k = k (x.outs.map orow) := cL_some rfl k
theorem trow_c3 (x : TxT) (k : Int → Option β) : cI .u32 (trow x) 3 k = k x.lock := cI_some rfl k
end
theorem irow_len (x : Inp) : (irow x).length = 35 := by simp [irow]
theorem irow_take (x : Inp) : List.take 35 (irow x) = irow x := by simp [irow]
theorem orow_len (x : Outp) : (orow x).length = 2 := by simp [orow]
theorem orow_take (x : Outp) : List.take 2 (orow x) = orow x := by simp [orow]
theorem trow_len (x : TxT) : (trow x).length = 4 := by simp [trow]
theorem trow_lit (x : TxT) : [V.sc (.int .u32 x.ver), V.sl 35 (x.ins.map irow), V.sl 2 (x.outs.map orow), V.sc (.int .u32 x.lock)] = trow x := (by simp [trow])
def bytesOk (l : List Int) : Prop := ∀ n ∈ l, 0 ≤ n ∧ n ≤ 255
structure InpOk (x : Inp) : Prop where
  pv : x.pv.length = 33
  by_ : ∀ j, j < 32 → 0 ≤ x.pv.getD j 0 ∧ x.pv.getD j 0 ≤ 255
  ix : 0 ≤ x.pv.getD 32 0 ∧ x.pv.getD 32 0 ≤ 4294967295
  seq : 0 ≤ x.seq ∧ x.seq ≤ 4294967295
  wit : ∀ b ∈ x.wit, bytesOk b ∧ b.length ≤ maxLen
  wl : x.wit.length ≤ maxLen
structure OutpOk (x : Outp) : Prop where
  val : -9223372036854775808 ≤ x.val ∧ x.val ≤ 9223372036854775807
  scr : bytesOk x.scr
  sl : x.scr.length ≤ maxLen
structure TxOk (t : TxT) : Prop where
  ver : 0 ≤ t.ver ∧ t.ver ≤ 4294967295
  lock : 0 ≤ t.lock ∧ t.lock ≤ 4294967295
  ins : ∀ x ∈ t.ins, InpOk x
  outs : ∀ x ∈ t.outs, OutpOk x
  il : t.ins.length ≤ maxLen
  ol : t.outs.length ≤ maxLen
theorem HasRow.tail {ct : CT} {cts : List CT} {vs : List V} (h : HasRow (ct :: cts) vs) : ∃ v r, vs = v :: r ∧ HasC ct v ∧ HasRow cts r := by
  cases vs with
  | nil => have := h.1; simp at this
  | cons v r => exact ⟨v, r, rfl, h.2 0 v ct rfl rfl, ⟨by simpa using h.1, fun i c ct hc hct => h.2 (i + 1) c ct (by simpa using hc) (by simpa using hct)⟩⟩
theorem HasRow.nil {vs : List V} (h : HasRow [] vs) : vs = [] := List.length_eq_zero_iff.1 (by simpa using h.1)
theorem items_of : ∀ {es : List (List V)}, (∀ e ∈ es, HasRow [.sl [.int .u8]] e) → ∃ w : List (List Int), es = items w ∧ ∀ b ∈ w, bytesOk b ∧ b.length ≤ maxLen
  | [], _ => ⟨[], rfl, by simp⟩
  | e :: es, h => by
    obtain ⟨v, r, rfl, h1, h2⟩ := (h e (by simp)).tail
    obtain rfl := h2.nil
    obtain ⟨xs, rfl, hl, hx⟩ := h1.sl_inv
    obtain ⟨l, rfl, hw⟩ := ints_of hx
    obtain ⟨w, rfl, hw'⟩ := items_of (es := es) (fun x hx => h x (by simp [hx]))
    refine ⟨l :: w, rfl, fun b hb => ?_⟩
    rcases List.mem_cons.1 hb with rfl | hb
    · exact ⟨fun n hn => wf_u8 (hw n hn), by simpa [ints] using hl⟩
    · exact hw' b hb
theorem outs_of : ∀ {es : List (List V)}, (∀ e ∈ es, HasRow [.int .i64, .sl [.int .u8]] e) → ∃ w : List Outp, es = w.map orow ∧ ∀ b ∈ w, OutpOk b
  | [], _ => ⟨[], rfl, by simp⟩
  | e :: es, h => by
    obtain ⟨v, r, rfl, h1, h2⟩ := (h e (by simp)).tail
    obtain ⟨v2, r2, rfl, h3, h4⟩ := h2.tail
    obtain rfl := h4.nil
    obtain ⟨n, rfl, hn⟩ := h1.int_inv
    obtain ⟨xs, rfl, hl, hx⟩ := h3.sl_inv
    obtain ⟨l, rfl, hw⟩ := ints_of hx
    obtain ⟨w, rfl, hw'⟩ := outs_of (es := es) (fun x hx => h x (by simp [hx]))
    refine ⟨⟨n, l⟩ :: w, rfl, fun b hb => ?_⟩
    rcases List.mem_cons.1 hb with rfl | hb
    · exact ⟨wf_i64 hn, fun n hn => wf_u8 (hw n hn), by simpa [ints] using hl⟩
    · exact hw' b hb
theorem row_split {a b : List CT} {vs : List V} (h : HasRow (a ++ b) vs) : ∃ r s, vs = r ++ s ∧ HasRow a r ∧ HasRow b s := by
  refine ⟨vs.take a.length, vs.drop a.length, (List.take_append_drop _ _).symm, ⟨?_, fun i c ct hc hct => ?_⟩, ⟨?_, fun i c ct hc hct => ?_⟩⟩
  · have := h.1; simp at this ⊢; omega
  · have hi : i < a.length := (List.getElem?_eq_some_iff.1 hct).1
    refine h.2 i c ct ?_ (by rw [List.getElem?_append_left hi]; exact hct)
    rw [List.getElem?_take, if_pos hi] at hc; exact hc
  · have := h.1; simp at this ⊢; omega
  · refine h.2 (a.length + i) c ct (by rw [List.getElem?_drop] at hc; exact hc) ?_
    rw [List.getElem?_append_right (by omega)]; simpa using hct
theorem irow_of_row {l : List Int} (hl : l.length = 32) (i s : Int) (w : List (List Int)) : row .u8 l ++ [V.sc (.int .u32 i), V.sc (.int .u32 s), V.sl 1 (items w)] = irow ⟨l ++ [i], s, w⟩ := by
  match l, hl with
  | [x0, x1, x2, x3, x4, x5, x6, x7, x8, x9, x10, x11, x12, x13, x14, x15, x16, x17, x18, x19, x20, x21, x22, x23, x24, x25, x26, x27, x28, x29, x30, x31], _ => rfl
theorem ins_of : ∀ {es : List (List V)}, (∀ e ∈ es, HasRow (List.replicate 32 (.int .u8) ++ [.int .u32, .int .u32, .sl [.sl [.int .u8]]]) e) → ∃ w : List Inp, es = w.map irow ∧ ∀ b ∈ w, InpOk b
  | [], _ => ⟨[], rfl, by simp⟩
  | e :: es, h => by
    obtain ⟨r, s, rfl, h1, h2⟩ := row_split (h e (by simp))
    obtain ⟨l, rfl, hl, hw⟩ := row_of h1
    obtain ⟨v1, r1, rfl, g1, h2⟩ := h2.tail
    obtain ⟨v2, r2, rfl, g2, h2⟩ := h2.tail
    obtain ⟨v3, r3, rfl, g3, h2⟩ := h2.tail
    obtain rfl := h2.nil
    obtain ⟨i, rfl, hi⟩ := g1.int_inv
    obtain ⟨q, rfl, hq⟩ := g2.int_inv
    obtain ⟨xs, rfl, hxl, hx⟩ := g3.sl_inv
    obtain ⟨wt, rfl, hwt⟩ := items_of hx
    obtain ⟨w, rfl, hw'⟩ := ins_of (es := es) (fun x hx => h x (by simp [hx]))
    refine ⟨⟨l ++ [i], q, wt⟩ :: w, by rw [List.map_cons, ← irow_of_row hl]; rfl, fun b hb => ?_⟩
    rcases List.mem_cons.1 hb with rfl | hb
    · refine ⟨by simp [hl], fun j hj => ?_, ?_, wf_u32 hq, hwt, by simpa [items] using hxl⟩
      · have : (l ++ [i]).getD j 0 = l[j]'(by omega) := by
          rw [List.getD_eq_getElem?_getD, List.getElem?_append_left (by omega), List.getElem?_eq_getElem (by omega)]; rfl
        show 0 ≤ (l ++ [i]).getD j 0 ∧ (l ++ [i]).getD j 0 ≤ 255
        rw [this]; exact wf_u8 (hw _ (List.getElem_mem _))
      · have : (l ++ [i]).getD 32 0 = i := by
          rw [List.getD_eq_getElem?_getD, List.getElem?_append_right (by omega), hl]; rfl
        show 0 ≤ (l ++ [i]).getD 32 0 ∧ (l ++ [i]).getD 32 0 ≤ 4294967295
        rw [this]; exact wf_u32 hi
    · exact hw' b hb
theorem tx_of {a : List V} (h : HasRow ([.int .u32] ++ [.sl (List.replicate 32 (.int .u8) ++ List.replicate 2 (.int .u32) ++ [.sl ([.sl ([.int .u8])])])] ++ [.sl ([.int .i64] ++ [.sl ([.int .u8])])] ++ [.int .u32]) a) : ∃ t, a = trow t ∧ TxOk t := by
  obtain ⟨v1, r1, rfl, g1, h⟩ := h.tail
  obtain ⟨v2, r2, rfl, g2, h⟩ := h.tail
  obtain ⟨v3, r3, rfl, g3, h⟩ := h.tail
  obtain ⟨v4, r4, rfl, g4, h⟩ := h.tail
  obtain rfl := h.nil
  obtain ⟨n, rfl, hn⟩ := g1.int_inv
  obtain ⟨m, rfl, hm⟩ := g4.int_inv
  obtain ⟨xs, rfl, hxl, hx⟩ := g2.sl_inv
  obtain ⟨ys, rfl, hyl, hy⟩ := g3.sl_inv
  obtain ⟨is, rfl, his⟩ := ins_of (fun e he => by
    have := hx e he
    rw [List.append_assoc] at this
    exact this)
  obtain ⟨os, rfl, hos⟩ := outs_of (fun e he => hy e he)
  exact ⟨⟨n, is, os, m⟩, rfl, ⟨wf_u32 hn, wf_u32 hm, his, hos, by simpa using hxl, by simpa using hyl⟩⟩
end Go.Proofs.Ytoeobffjdbdpgaa
