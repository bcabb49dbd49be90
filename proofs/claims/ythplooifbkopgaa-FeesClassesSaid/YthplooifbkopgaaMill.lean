/- Contracts of the mill's Mod, and of its deck: New, Left, Next. -/
import Derived.Test.YthplooifbkopgaaRows
import Derived.Test.YthplooifbkopgaaBase
namespace Go.Proofs.Ythplooifbkopgaa
open Go.RowKit

theorem tmod_neg (v n : Int) (hn : 1 ≤ n) (h : v.tmod n < 0) : v.tmod n + n = v % n := by
  have h1 := Int.tmod_eq_emod_of_nonneg (a := v) (b := n)
  by_cases hv : 0 ≤ v
  · rw [h1 hv] at h; have := Int.emod_nonneg v (b := n) (by omega); omega
  · rw [Int.tmod_eq_emod] at h ⊢
    split at h
    · have := Int.emod_nonneg v (b := n) (by omega); omega
    · rename_i hh; rw [if_neg hh]; rw [Int.natAbs_of_nonneg (by omega)]; omega
theorem tmod_nonneg' (v n : Int) (hn : 1 ≤ n) (h : 0 ≤ v.tmod n) : v.tmod n = v % n := by
  rw [Int.tmod_eq_emod] at h ⊢
  split at h
  · rename_i hh; rw [if_pos hh]; omega
  · have := Int.emod_lt_of_pos v (b := n) (by omega); omega
set_option maxHeartbeats 400000 in
theorem mod_any (v n : Int) (w : World) (h1 : 1 ≤ n) (h2 : n ≤ 9223372036854775807) :
    Calls Try.prog 9 #[.int .i64 v, .int .i64 n] w fun e w' => e = .returned (.int .i64 (v % n)) ∧ w = w' := by
  have hr : v.tmod n + n = v % n → 0 ≤ v % n ∧ v % n < n := fun _ => ⟨Int.emod_nonneg _ (by omega), Int.emod_lt_of_pos _ (by omega)⟩
  go_enter Try.func9, Try.ntmps9
  go_wp2
  · go_ret
    have h : v.tmod n < 0 := by assumption
    have he := tmod_neg v n h1 h
    have := hr he
    exact ⟨ret_int (by rw [IntWalk.wrap64_in _ ⟨by omega, by omega⟩, he]), rfl⟩
  · go_ret
    have h : 0 ≤ v.tmod n := by assumption
    exact ⟨ret_int (tmod_nonneg' v n h1 h), rfl⟩

/-- a deck, in block d: its list is xs, and the next number is number k; what it reads is none of O, and neither is d -/
def Deck (w : World) (O : Nat → Prop) (d : Nat) : Prop :=
  ∃ (A : Option Addr) (c k : Nat) (xs : List Int), Blk w d 59 #[.slice A xs.length c, .int .i64 k] ∧ k ≤ xs.length ∧ xs.length ≤ 9223372036854775807 ∧ ¬ O d ∧
    Rd w (fun b => O b ∨ b = d) 1 A xs.length (xs.map (Value.int .i64))
theorem Deck.keep {w w' : World} {O O' : Nat → Prop} {d : Nat} (h : Deck w O d) (hk : Kept O' w w') (hO : ∀ k, O' k → O k) : Deck w' O d := by
  obtain ⟨A, c, k, xs, hb, h1, h2, h3, h4⟩ := h
  exact ⟨A, c, k, xs, hb.keep hk (fun h => h3 (hO _ h)), h1, h2, h3, h4.keep hk (fun k h => .inl (hO k h))⟩
theorem Deck.keepN {w w' : World} {O : Nat → Prop} {d : Nat} (h : Deck w O d) (hk : Kept No w w') : Deck w' O d := h.keep hk (fun _ h => no_of h)
theorem Deck.more {w : World} {O O' : Nat → Prop} {d : Nat} (h : Deck w O d) (hO : ∀ k, k < w.heap.size → O' k → O k) : Deck w O' d := by
  obtain ⟨A, c, k, xs, hb, h1, h2, h3, h4⟩ := h
  exact ⟨A, c, k, xs, hb, h1, h2, fun h => h3 (hO _ hb.lt h), h4.more (by omega) (fun k hk h => h.elim (fun h => .inl (hO k hk h)) .inr)⟩
theorem Deck.lt {w : World} {O : Nat → Prop} {d : Nat} (h : Deck w O d) : d < w.heap.size := by
  obtain ⟨A, c, k, xs, hb, _⟩ := h
  exact hb.lt

set_option maxHeartbeats 400000 in
theorem left_any (A : Option Addr) (n c k d : Nat) (w : World) (h0 : w.cell? ⟨d, 0, none⟩ = some (.slice A n c)) (h1 : w.cell? ⟨d, 1, none⟩ = some (.int .i64 k)) :
    Calls Try.prog 39 #[.pointer (some ⟨d, 0, none⟩)] w fun e w' => e = .returned (.bool (decide (k < n))) ∧ ∃ m, w' = w.drewN m := by
  go_enter Try.func39, Try.ntmps39
  go_wp2
  go_quiet (fail)
  go_wp2
  go_ret
  exact ⟨by simp, _, rfl⟩

set_option maxHeartbeats 400000 in
theorem next_some (ad : Addr) (n c k d : Nat) (x m : Int) (w : World) (hb : ad.block ≠ d) (h0 : w.cell? ⟨d, 0, none⟩ = some (.slice (some ad) n c)) (h1 : w.cell? ⟨d, 1, none⟩ = some (.int .i64 k)) (hf : w.frozen? ⟨d, 1, none⟩ = false)
    (hk : k < n) (hn : n ≤ 9223372036854775807) (hx : w.cell? (ad.add k) = some (.int .i64 x)) (hm : 1 ≤ m) (hm2 : m ≤ 9223372036854775807) :
    Calls Try.prog 23 #[.pointer (some ⟨d, 0, none⟩), .int .i64 m] w fun e w' => e = .returned (.int .i64 (x % m)) ∧ ∃ q, w' = (w.setCell ⟨d, 1, none⟩ (.int .i64 (k + 1 : Nat))).drewN q := by
  go_enter Try.func23, Try.ntmps23
  go_wp2_with (go_at_call 39; refine (left_any (some ad) n c k d _ h0 h1).mono ?_; rintro e w' ⟨rfl, q0, rfl⟩)
  have e1 : IntKind.i64.wrap (k : Int) = k := IntWalk.i64_in _ (by omega)
  have e2 : (0 : Int) ≤ (k : Int) := by omega
  have e3 : ((k : Int)).toNat = k := by omega
  have e4 : (k : Int) < n := by omega
  have hx2 : ∀ m u, ((w.drewN m).setCell ⟨d, 1, none⟩ u).cell? (ad.add k) = some (.int .i64 x) := by
    intro m u
    rw [World.cell?_setCell_other _ _ _ _ (fun e => hb (by rw [← block_of_add ad k, ← e]))]
    exact hx
  go_quiet ((go_at_call 9; exact quiet_left (mod_any x m _ hm hm2)))
  go_wp2
  go_ret
  exact ⟨rfl, q0 + nq, by rw [← World.drewN_drewN]; rfl⟩
set_option maxHeartbeats 400000 in
theorem next_none (A : Option Addr) (n c k d : Nat) (m : Int) (w : World) (h0 : w.cell? ⟨d, 0, none⟩ = some (.slice A n c)) (h1 : w.cell? ⟨d, 1, none⟩ = some (.int .i64 k))
    (hk : ¬ k < n) :
    Calls Try.prog 23 #[.pointer (some ⟨d, 0, none⟩), .int .i64 m] w fun e w' => e = .returned (.int .i64 0) ∧ ∃ q, w' = w.drewN q := by
  have hd : decide (k < n) = false := by simpa using hk
  go_enter Try.func23, Try.ntmps23
  go_wp2_with (go_at_call 39; refine (left_any A n c k d _ h0 h1).mono ?_; rintro e w' ⟨rfl, q0, rfl⟩)
  go_ret
  exact ⟨rfl, q0, rfl⟩

/-- The deck's next number: something from 0 to m - 1; but for the deck's own block nothing changes. -/
theorem next_any (d : Nat) (m : Int) (w : World) (O : Nat → Prop) (h : Deck w O d) (hm : 1 ≤ m) (hm2 : m ≤ 9223372036854775807) :
    Calls Try.prog 23 #[.pointer (some ⟨d, 0, none⟩), .int .i64 m] w fun e w' => ∃ x : Int, e = .returned (.int .i64 x) ∧ 0 ≤ x ∧ x < m ∧ Deck w' O d ∧ Kept (fun b => b = d) w w' ∧ w'.heap.size = w.heap.size := by
  obtain ⟨A, c, k, xs, hb, h1, h2, h3, h4⟩ := h
  by_cases hk : k < xs.length
  · obtain ⟨ad, rfl, hne, hc⟩ := h4.elem hk
    refine (next_some ad xs.length c k d xs[k] m w (fun h => hne (.inr h)) (hb.cell 0) (hb.cell 1) (hb.frozen 1) hk h2 hc hm hm2).mono ?_
    rintro e w' ⟨rfl, q, rfl⟩
    have hk' : Kept (fun b => b = d) w ((w.setCell ⟨d, 1, none⟩ (.int .i64 (k + 1 : Nat))).drewN q) := (Kept.setCell (O := fun b => b = d) w (p := ⟨d, 1, none⟩) (.inl rfl) _).trans (Kept.drewN _ _ q) (fun _ _ h => h)
    exact ⟨_, rfl, Int.emod_nonneg _ (by omega), Int.emod_lt_of_pos _ (by omega),
      ⟨some ad, c, k + 1, xs, (hb.set_ 1 _).drewN q, hk, h2, h3, h4.keep hk' (fun _ h => .inr h)⟩, hk', by simp [World.drewN, World.setCell]⟩
  · refine (next_none A xs.length c k d m w (hb.cell 0) (hb.cell 1) hk).mono ?_
    rintro e w' ⟨rfl, q, rfl⟩
    exact ⟨0, rfl, by omega, by omega, ⟨A, c, k, xs, hb.drewN q, h1, h2, h3, h4.drewN q⟩, Kept.drewN _ _ q, rfl⟩

set_option maxHeartbeats 400000 in
theorem new_any (A : Option Addr) (n c : Nat) (w : World) :
    Calls Try.prog 17 #[.slice A n c] w fun e w' => e = .returned (.pointer (some ⟨w.heap.size, 0, none⟩)) ∧ w.alloc (.cells #[.slice A n c, .int .i64 0] 59) = w' := by
  go_enter Try.func17, Try.ntmps17
  go_wp2
  go_ret
  exact ⟨rfl, rfl⟩
theorem deck_new {A : Option Addr} {c : Nat} {xs : List Int} {w : World} {O : Nat → Prop} (h : Rd w O 1 A xs.length (xs.map (Value.int .i64))) (hl : xs.length ≤ 9223372036854775807) (hO : ∀ k, O k → k < w.heap.size) :
    Deck (w.alloc (.cells #[.slice A xs.length c, .int .i64 0] 59)) O w.heap.size :=
  ⟨A, c, 0, xs, Blk.new _ _ _, Nat.zero_le _, hl, fun h => by have := hO _ h; omega,
    (h.more (by omega) (fun k hk h => by rcases h with h | h; exact h; omega)).keepN (Kept.alloc No _ _)⟩

end Go.Proofs.Ythplooifbkopgaa
