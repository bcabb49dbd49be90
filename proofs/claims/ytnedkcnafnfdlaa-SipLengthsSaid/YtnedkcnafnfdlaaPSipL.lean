/- sip: zero bytes at the end. -/
import Derived.Test.YtnedkcnafnfdlaaPSip2
namespace Go.Proofs.Ytnedkcnafnfdlaa
set_option linter.unusedVariables false
set_option linter.unusedSimpArgs false
theorem sipLengths_plain (a0 : List V) (a1 : List (List V)) (a2 : Int) (wf0 : HasRow (List.replicate 2 (.int .u64)) a0) (hl1 : a1.length ≤ maxLen) (wf1 : ∀ e ∈ a1, HasRow [.int .u8] e) (wf2 : (Lit.int .u8 a2).wf = true) : ∃ L, ∀ k : Bool → Option Bool, F_law04_SipLengths Bool L a0 a1 a2 k = k true := by
  obtain ⟨w, rfl, hw, _⟩ := row_of wf0
  obtain ⟨l, rfl, _⟩ := ints_of wf1
  have h2 := wf_u8 wf2
  match w, hw with
  | [x, y], _ =>
  refine ⟨l.length + 60 + 40, fun k => ?_⟩
  simp only [F_law04_SipLengths, R_law04_SipLengths, sane_holds, ints_len, row_len, lt_eq]
  show ifb (decide ((l.length : Int) > 500)) _ _ = _
  by_cases h : (l.length : Int) > 500
  · rw [ifb_pos h]
  · have hm : 0 ≤ Int.tmod a2 20 ∧ Int.tmod a2 20 < 20 := by
      rw [Int.tmod_eq_emod_of_nonneg h2.1]; omega
    obtain ⟨m, hmm⟩ : ∃ m : Nat, Int.tmod a2 20 = m := ⟨(Int.tmod a2 20).toNat, by omega⟩
    have w1 : IntKind.wrap .i64 (Int.tmod a2 20) = (m : Int) := by rw [wrap_i64 (by omega) (by omega), hmm]
    have hz : List.replicate m [V.sc (Value.int IntKind.u8 0)] = ints .u8 (List.replicate m 0) := by simp [ints]
    rw [ifb_neg h, chk_true (by simp [sizeCap]; omega), w1]
    simp only [List.nil_append, ints_len, Int.toNat_natCast, hz, ints_app]
    rw [chk_true (by simp [sizeCap]; omega), chk_true (by simp), show List.take 2 (row IntKind.u64 [x, y]) = row .u64 [x, y] from rfl, sip_sum _ _ _ _ (by simp; omega) (by simp; omega), chk_true (by simp), ref_sum _ _ _ _ (by simp; omega) (by simp; omega), ifb_beq_pos rfl, chk_true (by simp), sip_sum _ _ _ _ (by omega) (by omega), chk_true (by simp), ref_sum _ _ _ _ (by omega) (by omega)]
    simp
end Go.Proofs.Ytnedkcnafnfdlaa
