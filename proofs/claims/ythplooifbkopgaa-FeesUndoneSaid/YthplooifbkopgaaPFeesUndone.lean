/- fees: the law FeesUndone. -/
import Derived.Test.YthplooifbkopgaaPU2
import Derived.Test.YthplooifbkopgaaPUS
namespace Go.Proofs.Ythplooifbkopgaa
set_option linter.unusedVariables false
set_option linter.unusedSimpArgs false
set_option maxRecDepth 100000
theorem rw1_id {h : Int} {x : Smp} (hx : ¬ x.f > h) : rw1 h x = x := by rw [rw1, if_neg hx]
theorem rw1_f {h : Int} (h0 : 0 ≤ h) (x : Smp) : ¬ (rw1 h x).f > h := by
  unfold rw1
  split
  · simp [Smp.at]; omega
  · assumption
theorem late_rw1 (h : Int) (x : Smp) : late h (rw1 h x) = late h x := by unfold rw1; split <;> rfl
theorem late_cfS (h : Int) (hs : List (List Int)) (ht : Int) (x : Smp) : late h (cfS hs ht x) = late h x := by unfold cfS; split <;> rfl
theorem rwd_idem {h : Int} (h0 : 0 ≤ h) (l : List Smp) : rwd h (rwd h l) = rwd h l := by
  induction l with
  | nil => rfl
  | cons x l ih =>
    unfold rwd at ih ⊢
    by_cases d : late h x = true
    · simp only [List.filter_cons, d, Bool.not_true, Bool.false_eq_true, if_false]; exact ih
    · have d : late h x = false := by simpa using d
      simp only [List.filter_cons, d, Bool.not_false, if_true, List.map_cons, late_rw1]
      rw [rw1_id (rw1_f h0 x), ih]
theorem rw1_cfS {h ht : Int} (h0 : 0 ≤ h) (hh : h < ht) (hs : List (List Int)) (x : Smp) : rw1 h (cfS hs ht x) = rw1 h x := by
  by_cases c : x.f = 0 ∧ x.s < ht ∧ x.id ∈ hs
  · rw [cfS, if_pos c]
    have e : rw1 h x = x := rw1_id (by rw [c.1]; omega)
    rw [e, rw1, if_pos (show (x.at ht).f > h from hh)]
    obtain ⟨id, c', s, f, hid⟩ := x
    have := c.1
    simp only at this
    subst this
    rfl
  · rw [cfS, if_neg c]
theorem rwd_confirm {h ht : Int} (h0 : 0 ≤ h) (hh : h < ht) (hs : List (List Int)) (l : List Smp) : rwd h (l.map (cfS hs ht)) = rwd h l := by
  induction l with
  | nil => rfl
  | cons x l ih =>
    unfold rwd at ih ⊢
    by_cases d : late h x = true
    · simp only [List.map_cons, List.filter_cons, late_cfS, d, Bool.not_true, Bool.false_eq_true, if_false]; exact ih
    · have d : late h x = false := by simpa using d
      simp only [List.map_cons, List.filter_cons, late_cfS, d, Bool.not_false, if_true, List.map_cons]
      rw [ih, rw1_cfS h0 hh]
theorem rwd_new {h c hs : Int} (hh : h < hs) (l : List Smp) (id : List Int) (hid : id.length = 32) : rwd h (l ++ [newS id hid c hs]) = rwd h l := by
  have : late h (newS id hid c hs) = true := by simp [late, newS]; exact hh
  unfold rwd
  rw [List.filter_append]
  simp [this]
theorem rwd_len (h : Int) (l : List Smp) : (rwd h l).length ≤ l.length := by
  unfold rwd; rw [List.length_map]; exact List.length_filter_le _ _
theorem und_loop (L : Nat) (hL : 200000 ≤ L) (h : Int) (h0 : 16 ≤ h) (h20 : h ≤ 20) (x : List Smp) (kx : Int → List (List V) → List (List V) → List (List V) → Int → Option Bool) : ∀ (c m : Nat) (y : List Smp) (d : Dk), c < m → y.length + c ≤ 1000 → rwd h y = x →
    ∃ (y' : List Smp) (d' : Dk), y'.length ≤ 1000 ∧ rwd h y' = x ∧ lbbbbbbaba_law33_FeesUndone F_law33_sane F_mill_New F_mill_Mod F_law33_samples F_fees_Rewind F_mill_Deck_Next F_mill_Hashes F_fees_Confirm F_fees_Observe F_ref33_Same L kx m h (smps x) (smps y) (c : Int) d.es d.a = kx h (smps x) (smps y') d'.es d'.a
  | 0, m, y, d, hm, hl, hy => by
    obtain ⟨m, rfl⟩ : ∃ q, m = q + 1 := ⟨m - 1, by omega⟩
    refine ⟨y, d, by omega, hy, ?_⟩
    simp only [lbbbbbbaba_law33_FeesUndone, bbbbbbbaba_law33_FeesUndone]
    rw [ifb_neg (by omega)]
  | c + 1, m, y, d, hm, hl, hy => by
    obtain ⟨m, rfl⟩ : ∃ q, m = q + 1 := ⟨m - 1, by omega⟩
    have w : IntKind.wrap .i64 (((c + 1 : Nat) : Int) - 1) = (c : Int) := by rw [wrap_i64 (by omega) (by omega)]; omega
    have wh : IntKind.wrap .i64 (h + 1) = h + 1 := wrap_i64 (by omega) (by omega)
    obtain ⟨r, d1, _, h1, h2, q1⟩ := next_ex L d 2 (by omega) (by omega)
    by_cases hr : r = 0
    · obtain ⟨hs, d2, _, g1, g2, q2⟩ := hashes_ex L (by omega) d1 4 (by omega) (by omega)
      obtain ⟨s, d3, _, s1, s2, q3⟩ := next_ex L d2 4 (by omega) (by omega)
      obtain ⟨y', d', e1, e2, e3⟩ := und_loop L hL h h0 h20 x kx c m (y.map (cfS hs (h + 1 + s))) d3 (by omega) (by simp; omega) (by rw [rwd_confirm (by omega) (by omega), hy])
      refine ⟨y', d', e1, e2, ?_⟩
      simp only [lbbbbbbaba_law33_FeesUndone, bbbbbbbaba_law33_FeesUndone, lt_eq, q1, w, wh]
      rw [ifb_pos (by omega), ifb_beq_pos hr, q2]
      simp only [q3]
      rw [wrap_i64 (n := h + 1 + s) (by omega) (by omega), fees_confirm L hL y (by omega) hs g1 (by omega)]
      exact e3
    · obtain ⟨u, d2, _, u1, u2, q2⟩ := next_ex L d1 9 (by omega) (by omega)
      obtain ⟨v, d3, _, v1, v2, q3⟩ := next_ex L d2 50 (by omega) (by omega)
      obtain ⟨s, d4, _, s1, s2, q4⟩ := next_ex L d3 4 (by omega) (by omega)
      obtain ⟨cl, hcl⟩ := class_ex (β := Bool) L (by omega) (IntKind.wrap .i64 (10 + v))
      have hid : ([9, IntKind.wrap .u8 u] ++ List.replicate 30 (0 : Int)).length = 32 := by simp
      have eid : ([(V.sc (.int .u8 (9 : Int))), (V.sc (.int .u8 (IntKind.wrap .u8 u)))] ++ List.replicate 30 (V.sc (.int .u8 (0 : Int)))) = row .u8 ([9, IntKind.wrap .u8 u] ++ List.replicate 30 (0 : Int)) := rfl
      have step : ∀ y1 : List Smp, y1.length + c ≤ 1000 → rwd h y1 = x → ∃ (y' : List Smp) (d' : Dk), y'.length ≤ 1000 ∧ rwd h y' = x ∧ lbbbbbbaba_law33_FeesUndone F_law33_sane F_mill_New F_mill_Mod F_law33_samples F_fees_Rewind F_mill_Deck_Next F_mill_Hashes F_fees_Confirm F_fees_Observe F_ref33_Same L kx m h (smps x) (smps y1) (c : Int) d4.es d4.a = kx h (smps x) (smps y') d'.es d'.a :=
        fun y1 a1 a2 => und_loop L hL h h0 h20 x kx c m y1 d4 (by omega) a1 a2
      have pre : lbbbbbbaba_law33_FeesUndone F_law33_sane F_mill_New F_mill_Mod F_law33_samples F_fees_Rewind F_mill_Deck_Next F_mill_Hashes F_fees_Confirm F_fees_Observe F_ref33_Same L kx (m + 1) h (smps x) (smps y) ((c + 1 : Nat) : Int) d.es d.a =
          if (obsS cl y _ hid (h + 1 + s)).2 = 0 then lbbbbbbaba_law33_FeesUndone F_law33_sane F_mill_New F_mill_Mod F_law33_samples F_fees_Rewind F_mill_Deck_Next F_mill_Hashes F_fees_Confirm F_fees_Observe F_ref33_Same L kx m h (smps x) (smps (obsS cl y _ hid (h + 1 + s)).1) (c : Int) d4.es d4.a
          else lbbbbbbaba_law33_FeesUndone F_law33_sane F_mill_New F_mill_Mod F_law33_samples F_fees_Rewind F_mill_Deck_Next F_mill_Hashes F_fees_Confirm F_fees_Observe F_ref33_Same L kx m h (smps x) (smps y) (c : Int) d4.es d4.a := by
        simp only [lbbbbbbaba_law33_FeesUndone, bbbbbbbaba_law33_FeesUndone, lt_eq, q1, w, wh]
        rw [ifb_pos (by omega), ifb_beq_neg hr, q2]
        simp only [q3, q4]
        rw [wrap_i64 (n := h + 1 + s) (by omega) (by omega), eid, fees_observe L hL y (by omega) _ hid _ _ cl hcl, ifb_beq]
      rw [pre]
      have cases3 : (obsS cl y _ hid (h + 1 + s)).2 ≠ 0 ∨ obsS cl y _ hid (h + 1 + s) = (y ++ [newS _ hid cl (h + 1 + s)], 0) := by
        unfold obsS
        split
        · left; simp
        · split
          · left; simp
          · split
            · left; simp
            · right; rfl
      rcases cases3 with e | e
      · rw [if_neg e]; exact step y (by omega) hy
      · rw [e, if_pos rfl]; exact step _ (by simp; omega) (by rw [rwd_new (by omega), hy])
theorem feesUndone_plain (a0 : List (List V)) (a1 : Int) (hl0 : a0.length ≤ maxLen) (wf0 : ∀ e ∈ a0, HasRow [.int .i64] e) (wf1 : (Lit.int .i64 a1).wf = true) :
    ∃ L, ∀ k : Bool → Option Bool, F_law33_FeesUndone Bool L a0 a1 k = k true := by
  obtain ⟨l, rfl, _⟩ := ints_of wf0
  rw [ints_len] at hl0
  obtain ⟨L, hL⟩ : ∃ L : Nat, 200100 ≤ L := ⟨200100, Nat.le_refl _⟩
  refine ⟨L, fun k => ?_⟩
  have fs : ∀ k : Bool → Option Bool, F_law33_sane Bool L k = k true := by
    obtain ⟨q, rfl⟩ : ∃ q, L = q + 100 := ⟨L - 100, by omega⟩
    exact fun k => fsane q k
  obtain ⟨sl, d1, hsl, _, qs⟩ := samples_ex L (by omega) ⟨l, 0, by omega, by omega, hl0⟩
  have qs : ∀ (β : Type) (k : List (List V) → List (List V) → Int → Option β), F_law33_samples β L (ints .i64 l) 0 k = k (smps sl) d1.es d1.a := qs
  obtain ⟨r, r1, r2, qr⟩ := mod_ex L a1 5 (by omega) (by omega)
  obtain ⟨c, d2, _, c1, c2, qc⟩ := next_ex L d1 8 (by omega) (by omega)
  obtain ⟨c, rfl⟩ : ∃ q : Nat, c = q := ⟨c.toNat, by omega⟩
  have w : IntKind.wrap .i64 (16 + r) = 16 + r := wrap_i64 (by omega) (by omega)
  have hx := rwd_idem (h := 16 + r) (by omega) sl
  have hxl := rwd_len (16 + r) sl
  obtain ⟨y', d', e1, e2, e3⟩ := und_loop L (by omega) (16 + r) (by omega) (by omega) (rwd (16 + r) sl) (fun p6 p7 p8 b15_0 b15_1 => rbbbbbbabax0_law33_FeesUndone F_law33_sane F_mill_New F_mill_Mod F_law33_samples F_fees_Rewind F_mill_Deck_Next F_mill_Hashes F_fees_Confirm F_fees_Observe F_ref33_Same L p6 p7 p8 b15_0 b15_1 k) c L (rwd (16 + r) sl) d2 (by omega) (by omega) hx
  simp only [F_law33_FeesUndone, R_law33_FeesUndone, e_law33_FeesUndone, fs, F_mill_New, R_mill_New, lt_eq, qr, w]
  show F_law33_samples Bool L (ints .i64 l) 0 _ = _
  simp only [qs, fees_rewind L (by omega) _ sl (by omega), qc]
  refine e3.trans ?_
  simp only [rbbbbbbabax0_law33_FeesUndone]
  rw [fees_rewind L (by omega) _ y' (by omega), e2, same_ok L _ (by omega) (by omega)]
end Go.Proofs.Ythplooifbkopgaa
