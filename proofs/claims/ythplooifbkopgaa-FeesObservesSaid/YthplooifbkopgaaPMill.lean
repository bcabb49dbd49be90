/- The deck of numbers: what it gives is in its range. -/
import Derived.Test.YthplooifbkopgaaP1
import Derived.Test.YthplooifbkopgaaFfees2
namespace Go.Proofs.Ythplooifbkopgaa
set_option linter.unusedVariables false
set_option linter.unusedSimpArgs false
theorem mod_ex (L : Nat) (v n : Int) (hn : 1 ≤ n) (hn2 : n ≤ 1000000000000) : ∃ r, 0 ≤ r ∧ r < n ∧ ∀ (β : Type) (k : Int → Option β), F_mill_Mod β L v n k = k r := by
  by_cases h : Int.tmod v n < 0
  · have h1 := Int.lt_tmod_of_pos v (show 0 < n by omega)
    refine ⟨Int.tmod v n + n, by omega, by omega, fun β k => ?_⟩
    simp only [F_mill_Mod, R_mill_Mod, lt_eq]
    rw [chk_true (by omega), ifb_pos h, wrap_i64 (by omega) (by omega)]
  · have h1 := Int.tmod_lt_of_pos v (show 0 < n by omega)
    refine ⟨Int.tmod v n, by omega, h1, fun β k => ?_⟩
    simp only [F_mill_Mod, R_mill_Mod, lt_eq]
    rw [chk_true (by omega), ifb_neg h]
/-- a deck: numbers and a place -/
structure Dk where
  l : List Int
  a : Int
  h0 : 0 ≤ a
  h1 : a ≤ l.length
  hl : l.length ≤ 9223372036854775807
def Dk.es (d : Dk) : List (List V) := ints .i64 d.l
theorem next_ex (L : Nat) (d : Dk) (n : Int) (hn : 1 ≤ n) (hn2 : n ≤ 1000000000000) : ∃ (r : Int) (d' : Dk), d'.l = d.l ∧ 0 ≤ r ∧ r < n ∧ ∀ (β : Type) (k : Int → List (List V) → Int → Option β), F_mill_Deck_Next β L n d.es d.a k = k r d'.es d'.a := by
  obtain ⟨l, a, h0, h1, hl⟩ := d
  simp only [Dk.es]
  by_cases h : a < l.length
  · obtain ⟨i, rfl⟩ : ∃ i : Nat, a = i := ⟨a.toNat, by omega⟩
    have hi : i < l.length := by omega
    obtain ⟨r, q1, q2, q3⟩ := mod_ex L l[i] n hn hn2
    refine ⟨r, ⟨l, i + 1, by omega, by omega, hl⟩, rfl, q1, q2, fun β k => ?_⟩
    simp only [F_mill_Deck_Next, R_mill_Deck_Next, F_mill_Deck_Left, R_mill_Deck_Left, lt_eq, ints_len]
    have w1 : IntKind.wrap .i64 ((i : Int) + 1) = (i : Int) + 1 := wrap_i64 (by omega) (by omega)
    have w2 : IntKind.wrap .i64 ((i : Int) + 1 - 1) = (i : Int) := by rw [wrap_i64 (by omega) (by omega)]; omega
    rw [ifb_decT, if_pos (by omega), w1, w2, idx_nat (ints_get _ hi), cI_some (by rfl), q3]
  · refine ⟨0, ⟨l, a, h0, h1, hl⟩, rfl, by omega, by omega, fun β k => ?_⟩
    simp only [F_mill_Deck_Next, R_mill_Deck_Next, F_mill_Deck_Left, R_mill_Deck_Left, lt_eq, ints_len]
    rw [ifb_decT, if_neg (by omega)]
theorem hash_ex (L : Nat) (d : Dk) : ∃ (id : List Int) (d' : Dk), d'.l = d.l ∧ id.length = 32 ∧ ∀ (β : Type) (k : List V → List (List V) → Int → Option β), F_mill_Hash β L d.es d.a k = k (row .u8 id) d'.es d'.a := by
  obtain ⟨r, d1, e1, _, _, q1⟩ := next_ex L d 5 (by omega) (by omega)
  obtain ⟨s, d2, e2, _, _, q2⟩ := next_ex L d1 7 (by omega) (by omega)
  refine ⟨IntKind.wrap .u8 r :: (List.replicate 30 0 ++ [IntKind.wrap .u8 s]), d2, by rw [e2, e1], by simp, fun β k => ?_⟩
  simp only [F_mill_Hash, R_mill_Hash, q1, q2, lt_eq]
  rw [chk_true (by simp)]
  rfl
theorem hashes_ex (L : Nat) (hL : 1000 < L) (d : Dk) (n : Int) (hn : 0 ≤ n) (hn2 : n ≤ 900) : ∃ (hs : List (List Int)) (d' : Dk), d'.l = d.l ∧ (∀ h ∈ hs, h.length = 32) ∧ hs.length ≤ n ∧ ∀ (β : Type) (k : List (List V) → List (List V) → Int → Option β), F_mill_Hashes β L n d.es d.a k = k (hs.map (row .u8)) d'.es d'.a := by
  have loop : ∀ (c : Nat) (m : Nat) (hs : List (List Int)) (d : Dk), c < m → (∀ h ∈ hs, h.length = 32) → hs.length + c ≤ 1000 → ∃ (hs' : List (List Int)) (d' : Dk), d'.l = d.l ∧ (∀ h ∈ hs', h.length = 32) ∧ hs'.length = hs.length + c ∧ ∀ (β : Type) (kx : List (List V) → List (List V) → Int → Option β), lbbaba_mill_Hashes F_mill_Deck_Next F_mill_Hash L kx m (hs.map (row .u8)) (c : Int) d.es d.a = kx (hs'.map (row .u8)) d'.es d'.a := by
    intro c
    induction c with
    | zero =>
      intro m hs d hm h1 h2
      refine ⟨hs, d, rfl, h1, rfl, fun β kx => ?_⟩
      obtain ⟨m, rfl⟩ : ∃ q, m = q + 1 := ⟨m - 1, by omega⟩
      simp only [lbbaba_mill_Hashes, bbbaba_mill_Hashes]
      rw [ifb_neg (by omega)]
    | succ c ih =>
      intro m hs d hm h1 h2
      obtain ⟨m, rfl⟩ : ∃ q, m = q + 1 := ⟨m - 1, by omega⟩
      obtain ⟨id, d1, e1, hid, q1⟩ := hash_ex L d
      obtain ⟨hs', d2, e2, g1, g2, g3⟩ := ih m (hs ++ [id]) d1 (by omega) (by intro x hx; rcases List.mem_append.1 hx with h | h; exact h1 x h; simp at h; rw [h]; exact hid) (by simp; omega)
      refine ⟨hs', d2, by rw [e2, e1], g1, by rw [g2]; simp; omega, fun β kx => ?_⟩
      simp only [lbbaba_mill_Hashes, bbbaba_mill_Hashes, q1, lt_eq]
      have es : setAt (List.replicate 32 (V.sc (.int .u8 0))) 0 (row .u8 id) = row .u8 id := setAt_all (by simp [row_len, hid])
      have ec : chunks 32 1 (row .u8 id) = [row .u8 id] := by simp [chunks, List.take_of_length_le, row_len, hid]
      rw [ifb_pos (by omega), chk_true (by simp [row_len, hid]), es, ec, chk_true (by simp [sizeCap]; omega)]
      rw [show IntKind.wrap .i64 (((c + 1 : Nat) : Int) - 1) = (c : Int) by rw [wrap_i64 (by omega) (by omega)]; omega]
      have := g3 β kx
      simp only [List.map_append, List.map_cons, List.map_nil] at this
      exact this
  obtain ⟨r, d1, e1, h1, h2, q1⟩ := next_ex L d (n + 1) (by omega) (by omega)
  obtain ⟨c, rfl⟩ : ∃ c : Nat, r = c := ⟨r.toNat, by omega⟩
  obtain ⟨hs', d2, e2, g1, g2, g3⟩ := loop c L [] d1 (by omega) (by simp) (by simp; omega)
  refine ⟨hs', d2, by rw [e2, e1], g1, by simp at g2; omega, fun β k => ?_⟩
  simp only [F_mill_Hashes, R_mill_Hashes, e_mill_Hashes, lt_eq]
  rw [wrap_i64 (by omega) (by omega), q1]
  exact g3 β _
end Go.Proofs.Ythplooifbkopgaa
