/- fees: confirmed samples, all samples of a deck; the law FeesEstimates. -/
import Derived.Test.YthplooifbkopgaaPFees2
namespace Go.Proofs.Ythplooifbkopgaa
set_option linter.unusedVariables false
set_option linter.unusedSimpArgs false
set_option maxRecDepth 100000
theorem smps_set (l : List Smp) (i : Nat) (x : Smp) : (smps l).set i x.row = smps (l.set i x) := by simp [smps, List.map_set]
theorem smps_flen (l : List Smp) : (smps l).flatten.length = l.length * 35 := by rw [flat_len (smps_each l), smps_len]
theorem hs_get {hs : List (List Int)} {j : Nat} (h : j < hs.length) : (hs.map (row IntKind.u8))[j]? = some (row .u8 hs[j]) := by simp [h]
theorem confirm_inner (L : Nat) (hs : List (List Int)) (hh : ∀ x ∈ hs, x.length = 32) (hhl : hs.length ≤ 1000) (ht : Int) (n i : Nat) (hi : i < n) : ∀ (m j : Nat) (l : List Smp), l.length = n → j ≤ hs.length → hs.length - j < m → ∃ l' : List Smp, l'.length = n ∧ ∀ (β : Type) (kx : List (List V) → Int → Nat → Int → List V → Option β), lbbabaabaabav1_ref33_Confirm L kx m (hs.map (row .u8)) ht n (i : Int) (j : Int) (smps l).flatten = kx (hs.map (row .u8)) ht n (i : Int) (smps l').flatten := by
  intro m
  induction m with
  | zero => intro j l h1 h2 h3; omega
  | succ m ih =>
    intro j l h1 h2 h3
    by_cases h : j < hs.length
    · have hil : i < l.length := by omega
      have w : IntKind.wrap .i64 ((j : Int) + 1) = ((j + 1 : Nat) : Int) := by rw [wrap_i64 (by omega) (by omega)]; omega
      obtain ⟨r1, e1, q1⟩ := ih (j + 1) l h1 (by omega) (by omega)
      obtain ⟨r2, e2, q2⟩ := ih (j + 1) (l.set i ⟨l[i].id, l[i].c, l[i].s, ht, l[i].hid⟩) (by simp [h1]) (by omega) (by omega)
      have hid := hh _ (List.getElem_mem h)
      have t32 : List.take 32 (row IntKind.u8 hs[j]) = row .u8 hs[j] := List.take_of_length_le (by rw [row_len, hid]; omega)
      have hfl := smps_flen l
      have hle : (i + 1) * 35 ≤ l.length * 35 := Nat.mul_le_mul_right _ hil
      have g33 : (smps l).flatten[i * 35 + 33]? = some (.sc (.int .i64 l[i].s)) := by rw [flat_get (by omega) (smps_each l) (by omega) (smps_get hil)]; exact l[i].g33
      have g34 : (smps l).flatten[i * 35 + 34]? = some (.sc (.int .i64 l[i].f)) := by rw [flat_get (by omega) (smps_each l) (by omega) (smps_get hil)]; exact l[i].g34
      have st : setAt (smps l).flatten (i * 35 + 34) [V.sc (.int .i64 ht)] = (smps (l.set i ⟨l[i].id, l[i].c, l[i].s, ht, l[i].hid⟩)).flatten := by
        rw [flat_set (by omega) (smps_each l) (by omega) (smps_get hil), l[i].set34, smps_set]
      have body : ∀ (β : Type) (kx : List (List V) → Int → Nat → Int → List V → Option β), lbbabaabaabav1_ref33_Confirm L kx (m + 1) (hs.map (row .u8)) ht n (i : Int) (j : Int) (smps l).flatten =
          if l[i].id = hs[j] then (if l[i].f = 0 then (if l[i].s < ht then lbbabaabaabav1_ref33_Confirm L kx m (hs.map (row .u8)) ht n (i : Int) ((j + 1 : Nat) : Int) (smps (l.set i ⟨l[i].id, l[i].c, l[i].s, ht, l[i].hid⟩)).flatten else lbbabaabaabav1_ref33_Confirm L kx m (hs.map (row .u8)) ht n (i : Int) ((j + 1 : Nat) : Int) (smps l).flatten) else lbbabaabaabav1_ref33_Confirm L kx m (hs.map (row .u8)) ht n (i : Int) ((j + 1 : Nat) : Int) (smps l).flatten) else lbbabaabaabav1_ref33_Confirm L kx m (hs.map (row .u8)) ht n (i : Int) ((j + 1 : Nat) : Int) (smps l).flatten := by
        intro β kx
        simp only [lbbabaabaabav1_ref33_Confirm, bbbabaabaabav1_ref33_Confirm, lt_eq, List.length_map, Nat.zero_add, Nat.add_zero, Int.toNat_natCast, hfl, w]
        rw [ifb_pos (by omega), chk_true (by omega), chk_true (by omega), idx_nat (hs_get h), flat_take (smps_each l) (by omega) (smps_get hil), l[i].take32, t32, eqC_row .u8 l[i].hid hid, ifb_dec]
        rw [chk_true (by omega), cI_some g34, ifb_beq, chk_true (by omega), cI_some g33, ifb_dec, chk_true (by omega), chk_true ⟨trivial, by omega⟩, st]
      by_cases c1 : l[i].id = hs[j] ∧ l[i].f = 0 ∧ l[i].s < ht
      · refine ⟨r2, e2, fun β kx => ?_⟩
        rw [body, if_pos c1.1, if_pos c1.2.1, if_pos c1.2.2]
        exact q2 β kx
      · refine ⟨r1, e1, fun β kx => ?_⟩
        rw [body]
        by_cases d1 : l[i].id = hs[j]
        · rw [if_pos d1]
          by_cases d2 : l[i].f = 0
          · rw [if_pos d2, if_neg (fun d3 => c1 ⟨d1, d2, d3⟩)]; exact q1 β kx
          · rw [if_neg d2]; exact q1 β kx
        · rw [if_neg d1]; exact q1 β kx
    · refine ⟨l, h1, fun β kx => ?_⟩
      simp only [lbbabaabaabav1_ref33_Confirm, bbbabaabaabav1_ref33_Confirm, List.length_map]
      rw [ifb_neg (by omega)]
theorem confirm_outer (L : Nat) (hL : 2000 ≤ L) (hs : List (List Int)) (hh : ∀ x ∈ hs, x.length = 32) (hhl : hs.length ≤ 1000) (ht : Int) (n : Nat) (hn : n ≤ 100000) : ∀ (m i : Nat) (l : List Smp), l.length = n → i ≤ n → n - i < m → ∃ l' : List Smp, l'.length = n ∧ ∀ (β : Type) (kx : Nat → List V → Option β), lbbabav1_ref33_Confirm L kx m (hs.map (row .u8)) ht n (i : Int) (smps l).flatten = kx n (smps l').flatten := by
  intro m
  induction m with
  | zero => intro i l h1 h2 h3; omega
  | succ m ih =>
    intro i l h1 h2 h3
    by_cases h : i < n
    · obtain ⟨l1, e1, q1⟩ := confirm_inner L hs hh hhl ht n i h L 0 l h1 (by omega) (by omega)
      obtain ⟨l2, e2, q2⟩ := ih (i + 1) l1 e1 (by omega) (by omega)
      have w : IntKind.wrap .i64 ((i : Int) + 1) = ((i + 1 : Nat) : Int) := by rw [wrap_i64 (by omega) (by omega)]; omega
      refine ⟨l2, e2, fun β kx => ?_⟩
      simp only [lbbabav1_ref33_Confirm, Cbbbabav1_ref33_Confirm, bbbabav1_ref33_Confirm]
      rw [ifb_pos (by omega)]
      refine (q1 β _).trans ?_
      simp only [rbbabaabaabav1x2v1_ref33_Confirm, lt_eq, w]
      exact q2 β kx
    · refine ⟨l, h1, fun β kx => ?_⟩
      simp only [lbbabav1_ref33_Confirm, Cbbbabav1_ref33_Confirm, bbbabav1_ref33_Confirm]
      rw [ifb_neg (by omega)]
theorem confirm_ex (L : Nat) (hL : 20000 ≤ L) (l : List Smp) (hl : l.length ≤ 10000) (hs : List (List Int)) (hh : ∀ x ∈ hs, x.length = 32) (hhl : hs.length ≤ 1000) (ht : Int) : ∃ l' : List Smp, l'.length = l.length ∧ ∀ (β : Type) (k : List (List V) → Option β), F_ref33_Confirm β L (smps l) (hs.map (row .u8)) ht k k = k (smps l') := by
  obtain ⟨m, hm⟩ : ∃ m, L = m + 1 := ⟨L - 1, by omega⟩
  by_cases h : l = []
  · subst h
    refine ⟨[], rfl, fun β k => ?_⟩
    simp only [F_ref33_Confirm, R_ref33_Confirm, e_ref33_Confirm]
    rw [chk_true (by simp [smps, sizeCap])]
    show lbbaba_ref33_Confirm L _ L _ _ [] 0 = _
    conv => lhs; arg 3; rw [hm]
    simp only [lbbaba_ref33_Confirm, Cbbbaba_ref33_Confirm, bbbaba_ref33_Confirm]
    rw [ifb_neg (by simp)]
    rfl
  · obtain ⟨l1, e1, q1⟩ := confirm_outer L (by omega) hs hh hhl ht l.length (by omega) L 0 l rfl (by omega) (by omega)
    refine ⟨l1, e1, fun β k => ?_⟩
    simp only [F_ref33_Confirm, R_ref33_Confirm, e_ref33_Confirm, smps_len]
    have he : List.isEmpty (smps l) = false := by
      cases l with
      | nil => exact absurd rfl h
      | cons x l => rfl
    rw [chk_true (by simp [sizeCap]; omega), he, ifb_false]
    refine (q1 β _).trans ?_
    simp only [rbbabav1x0v1_ref33_Confirm]
    rw [← e1, ← smps_len l1, chunks_flat (smps_each l1)]
theorem samples_ex (L : Nat) (hL : 20000 ≤ L) (d : Dk) : ∃ (l : List Smp) (d' : Dk), l.length ≤ 100 ∧ d'.l = d.l ∧ ∀ (β : Type) (k : List (List V) → List (List V) → Int → Option β), F_law33_samples β L d.es d.a k = k (smps l) d'.es d'.a := by
  have loop : ∀ (c m : Nat) (l : List Smp) (d : Dk), c < m → l.length + c ≤ 100 → ∃ (l' : List Smp) (d' : Dk), l'.length ≤ 100 ∧ d'.l = d.l ∧ ∀ (β : Type) (kx : List (List V) → List (List V) → Int → Option β), lbbaba_law33_samples F_mill_Deck_Next F_mill_Hashes F_ref33_Confirm F_mill_Hash F_ref33_Observe L kx m (smps l) (c : Int) d.es d.a = kx (smps l') d'.es d'.a := by
    intro c
    induction c with
    | zero =>
      intro m l d hm hl
      obtain ⟨m, rfl⟩ : ∃ q, m = q + 1 := ⟨m - 1, by omega⟩
      refine ⟨l, d, by omega, rfl, fun β kx => ?_⟩
      simp only [lbbaba_law33_samples, bbbaba_law33_samples]
      rw [ifb_neg (by omega)]
    | succ c ih =>
      intro m l d hm hl
      obtain ⟨m, rfl⟩ : ∃ q, m = q + 1 := ⟨m - 1, by omega⟩
      have w : IntKind.wrap .i64 (((c + 1 : Nat) : Int) - 1) = (c : Int) := by rw [wrap_i64 (by omega) (by omega)]; omega
      obtain ⟨r, d1, e1, h1, h2, q1⟩ := next_ex L d 4 (by omega) (by omega)
      by_cases hr : r = 0
      · obtain ⟨hs, d2, e2, g1, g2, q2⟩ := hashes_ex L (by omega) d1 4 (by omega) (by omega)
        obtain ⟨s, d3, e3, s1, s2, q3⟩ := next_ex L d2 20 (by omega) (by omega)
        obtain ⟨l1, f1, q4⟩ := confirm_ex L hL l (by omega) hs g1 (by omega) (IntKind.wrap .i64 (1 + s))
        obtain ⟨l', d', g3, g4, q5⟩ := ih m l1 d3 (by omega) (by omega)
        refine ⟨l', d', g3, by rw [g4, e3, e2, e1], fun β kx => ?_⟩
        simp only [lbbaba_law33_samples, bbbaba_law33_samples, q1, lt_eq, w]
        rw [ifb_pos (by omega), ifb_beq_pos hr, q2]
        simp only [q3]
        exact (q4 β _).trans (q5 β kx)
      · obtain ⟨id, d2, e2, hid, q2⟩ := hash_ex L d1
        obtain ⟨s, d3, e3, s1, s2, q3⟩ := next_ex L d2 60 (by omega) (by omega)
        obtain ⟨t, d4, e4, t1, t2, q4⟩ := next_ex L d3 15 (by omega) (by omega)
        obtain ⟨l1, e, f1, q5⟩ := observe_ex L (by omega) l (by omega) id hid (IntKind.wrap .i64 (10 + s)) (IntKind.wrap .i64 (1 + t))
        obtain ⟨la, da, ga, ha, qa⟩ := ih m l1 d4 (by omega) (by omega)
        obtain ⟨lb, db, gb, hb, qb⟩ := ih m l d4 (by omega) (by omega)
        by_cases he : e = 0
        · refine ⟨la, da, ga, by rw [ha, e4, e3, e2, e1], fun β kx => ?_⟩
          simp only [lbbaba_law33_samples, bbbaba_law33_samples, q1, lt_eq, w]
          rw [ifb_pos (by omega), ifb_beq_neg hr, q2]
          simp only [q3, q4, q5]
          rw [ifb_beq_pos he]
          exact qa β kx
        · refine ⟨lb, db, gb, by rw [hb, e4, e3, e2, e1], fun β kx => ?_⟩
          simp only [lbbaba_law33_samples, bbbaba_law33_samples, q1, lt_eq, w]
          rw [ifb_pos (by omega), ifb_beq_neg hr, q2]
          simp only [q3, q4, q5]
          rw [ifb_beq_neg he]
          exact qb β kx
  obtain ⟨r, d1, e1, h1, h2, q1⟩ := next_ex L d 20 (by omega) (by omega)
  obtain ⟨c, rfl⟩ : ∃ c : Nat, r = c := ⟨r.toNat, by omega⟩
  obtain ⟨l', d', g1, g2, g3⟩ := loop c L [] d1 (by omega) (by simp; omega)
  refine ⟨l', d', g1, by rw [g2, e1], fun β k => ?_⟩
  simp only [F_law33_samples, R_law33_samples, e_law33_samples, q1]
  exact g3 β _
theorem fsane (L : Nat) {β : Type} (k : Bool → Option β) : F_law33_sane β (L + 100) k = k true := by kernel_rfl
theorem feesEstimates_plain (a0 : List (List V)) (a1 a2 a3 a4 a5 a6 : Int) (hl0 : a0.length ≤ maxLen) (wf0 : ∀ e ∈ a0, HasRow [.int .i64] e) (wf1 : (Lit.int .i64 a1).wf = true) (wf2 : (Lit.int .i64 a2).wf = true) (wf3 : (Lit.int .i64 a3).wf = true) (wf4 : (Lit.int .i64 a4).wf = true) (wf5 : (Lit.int .i64 a5).wf = true) (wf6 : (Lit.int .i64 a6).wf = true) :
    ∃ L, ∀ k : Bool → Option Bool, F_law33_FeesEstimates Bool L a0 a1 a2 a3 a4 a5 a6 k = k true := by
  obtain ⟨l, rfl, _⟩ := ints_of wf0
  rw [ints_len] at hl0
  obtain ⟨L, hL⟩ : ∃ L : Nat, 20100 ≤ L := ⟨20100, Nat.le_refl _⟩
  refine ⟨L, fun k => ?_⟩
  obtain ⟨n, hn⟩ : ∃ n, L = n + 1 + 1 + 1 := ⟨L - 3, by omega⟩
  have fs : ∀ k : Bool → Option Bool, F_law33_sane Bool L k = k true := by
    obtain ⟨q, rfl⟩ : ∃ q, L = q + 100 := ⟨L - 100, by omega⟩
    exact fun k => fsane q k
  obtain ⟨sl, d', hsl, _, qs⟩ := samples_ex L (by omega) ⟨l, 0, by omega, by omega, hl0⟩
  have qs : ∀ (β : Type) (k : List (List V) → List (List V) → Int → Option β), F_law33_samples β L (ints .i64 l) 0 k = k (smps sl) d'.es d'.a := qs
  obtain ⟨r6, _, _, q6⟩ := mod_ex L a6 40 (by omega) (by omega)
  obtain ⟨r1, _, _, q1⟩ := mod_ex L a1 6 (by omega) (by omega)
  obtain ⟨r2, _, _, q2⟩ := mod_ex L a2 20 (by omega) (by omega)
  obtain ⟨r4, b4, c4, q4⟩ := mod_ex L a4 20 (by omega) (by omega)
  obtain ⟨r24, _, _, q24⟩ := mod_ex L a2 24 (by omega) (by omega)
  obtain ⟨r27, _, _, q27⟩ := mod_ex L a2 27 (by omega) (by omega)
  obtain ⟨r25, _, _, q25⟩ := mod_ex L a3 25 (by omega) (by omega)
  obtain ⟨r5, _, _, q5⟩ := mod_ex L a5 4 (by omega) (by omega)
  obtain ⟨r3, _, _, q3⟩ := mod_ex L a5 3 (by omega) (by omega)
  have w1 : IntKind.wrap .i64 (1 + r4) = 1 + r4 := wrap_i64 (by omega) (by omega)
  have w2 : IntKind.wrap .i64 (1 + r4 + 1) = 1 + r4 + 1 := wrap_i64 (by omega) (by omega)
  obtain ⟨rn, _, _, qn⟩ := mod_ex L a3 (1 + r4 + 1) (by omega) (by omega)
  simp only [F_law33_FeesEstimates, R_law33_FeesEstimates, e_law33_FeesEstimates, fs, F_mill_New, R_mill_New]
  show F_law33_samples Bool L (ints .i64 l) 0 _ = _
  simp only [qs, q6, q1]
  -- the first loop, twice
  have n1 : ((List.length (chunks 1 2 [V.sc (Value.int IntKind.i64 a1), V.sc (Value.int IntKind.i64 r1)]) : Nat) : Int) = 2 := rfl
  have x0 : ∀ (κ : List V → Option Bool), idx (chunks 1 2 [V.sc (Value.int IntKind.i64 a1), V.sc (Value.int IntKind.i64 r1)]) 0 κ = κ [V.sc (Value.int IntKind.i64 a1)] := fun κ => rfl
  have x1 : ∀ (κ : List V → Option Bool), idx (chunks 1 2 [V.sc (Value.int IntKind.i64 a1), V.sc (Value.int IntKind.i64 r1)]) 1 κ = κ [V.sc (Value.int IntKind.i64 r1)] := fun κ => rfl
  have v0 : IntKind.wrap .i64 (0 + 1) = 1 := rfl
  have v1 : IntKind.wrap .i64 (1 + 1) = 2 := rfl
  have cc : ∀ (v : Int) (κ : Int → Option Bool), cI .i64 [V.sc (Value.int IntKind.i64 v)] 0 κ = κ v := fun v κ => rfl
  have fc := fun (a b c : Int) (κ : Int → Int → Option Bool) => fees_count L a b c sl (by omega) (by omega) κ
  have rc := fun (a b c : Int) (κ : Int → Int → Option Bool) => ref_count L a b c sl (by omega) (by omega) κ
  have t1 : ∀ (f : Nat), f = n + 1 + 1 + 1 → ∀ (κr : Bool → List (List V) → Int → Option Bool) (κx : Int → Int → Int → Int → List (List V) → Int → List (List V) → Int → Option Bool) (b : List (List V)) (z : Int),
      lbbbbaba_law33_FeesEstimates F_law33_sane F_mill_New F_law33_samples F_mill_Mod F_fees_Count F_ref33_Count F_fees_Estimate F_ref33_Estimate L κr κx f a2 a3 a4 a5 (smps sl) r6 (chunks 1 2 [V.sc (Value.int IntKind.i64 a1), V.sc (Value.int IntKind.i64 r1)]) 2 0 b z = κx a2 a3 a4 a5 (smps sl) r6 b z := by
    rintro f rfl κr κx b z
    simp only [lbbbbaba_law33_FeesEstimates, bbbbbaba_law33_FeesEstimates, lt_eq, v0, v1, x0, x1, cc, q2, fc, rc, ifb_bne, ifb_dec]
    simp
  rw [n1]
  refine (t1 L hn _ _ _ _).trans ?_
  simp only [Crbbbbabax0_law33_FeesEstimates, rbbbbabax0_law33_FeesEstimates, lt_eq, q4, w1, w2, qn, q24, q5, q27, q25, q3]
  generalize IntKind.wrap .i64 (1 + r24) = u1
  generalize IntKind.wrap .i64 (1 + r5) = u2
  generalize IntKind.wrap .i64 (r25 - 1) = u3
  have e1 := est_ex L (by omega) sl (by omega) (by omega) u1 rn (1 + r4) u2 r6
  have e2 := est_ex L (by omega) sl (by omega) (by omega) r27 u3 (1 + r4) r3 r6
  obtain ⟨y1, z1, e1⟩ := e1
  obtain ⟨y2, z2, e2⟩ := e2
  have a1' := fun (κ : Int → Int → Option Bool) => (e1 Bool κ).1
  have a2' := fun (κ : Int → Int → Option Bool) => (e1 Bool κ).2
  have a3' := fun (κ : Int → Int → Option Bool) => (e2 Bool κ).1
  have a4' := fun (κ : Int → Int → Option Bool) => (e2 Bool κ).2
  have c0 : ∀ (a b c d e f g h : V) (κ : List V → Option Bool), idx (chunks 4 2 [a, b, c, d, e, f, g, h]) 0 κ = κ [a, b, c, d] := fun _ _ _ _ _ _ _ _ κ => rfl
  have c1 : ∀ (a b c d e f g h : V) (κ : List V → Option Bool), idx (chunks 4 2 [a, b, c, d, e, f, g, h]) 1 κ = κ [e, f, g, h] := fun _ _ _ _ _ _ _ _ κ => rfl
  have sz : ∀ (p q r s a b c d : V), setAt [p, q, r, s] 0 (List.take 4 [a, b, c, d]) = [a, b, c, d] := fun _ _ _ _ _ _ _ _ => rfl
  have g0 : ∀ (a b c d : Int) (κ : Int → Option Bool), cI .i64 [V.sc (.int .i64 a), V.sc (.int .i64 b), V.sc (.int .i64 c), V.sc (.int .i64 d)] 0 κ = κ a := fun _ _ _ _ κ => rfl
  have g1 : ∀ (a b c d : Int) (κ : Int → Option Bool), cI .i64 [V.sc (.int .i64 a), V.sc (.int .i64 b), V.sc (.int .i64 c), V.sc (.int .i64 d)] 1 κ = κ b := fun _ _ _ _ κ => rfl
  have g2 : ∀ (a b c d : Int) (κ : Int → Option Bool), cI .i64 [V.sc (.int .i64 a), V.sc (.int .i64 b), V.sc (.int .i64 c), V.sc (.int .i64 d)] 2 κ = κ c := fun _ _ _ _ κ => rfl
  have g3 : ∀ (a b c d : Int) (κ : Int → Option Bool), cI .i64 [V.sc (.int .i64 a), V.sc (.int .i64 b), V.sc (.int .i64 c), V.sc (.int .i64 d)] 3 κ = κ d := fun _ _ _ _ κ => rfl
  have ll : ∀ (a b c d e f g h : V), ((List.length (chunks 4 2 [a, b, c, d, e, f, g, h]) : Nat) : Int) = 2 := fun _ _ _ _ _ _ _ _ => rfl
  have t2 : ∀ (f : Nat), f = n + 1 + 1 + 1 → ∀ (κr : Bool → List (List V) → Int → Option Bool) (κx : List (List V) → Int → Option Bool) (b : List (List V)) (z : Int),
      lbbbbbbaba_law33_FeesEstimates F_law33_sane F_mill_New F_law33_samples F_mill_Mod F_fees_Count F_ref33_Count F_fees_Estimate F_ref33_Estimate L κr κx f (smps sl) r6 (chunks 4 2 [V.sc (.int .i64 u1), V.sc (.int .i64 rn), V.sc (.int .i64 (1 + r4)), V.sc (.int .i64 u2), V.sc (.int .i64 r27), V.sc (.int .i64 u3), V.sc (.int .i64 (1 + r4)), V.sc (.int .i64 r3)]) 2 0 b z = κx b z := by
    rintro f rfl κr κx b z
    simp only [lbbbbbbaba_law33_FeesEstimates, bbbbbbbaba_law33_FeesEstimates, lt_eq, v0, v1, c0, c1, sz, g0, g1, g2, g3, a1', a2', a3', a4', ifb_bne, ifb_dec, if_true]
    simp [chk]
  simp only [ll]
  exact t2 L hn _ _ _ _
end Go.Proofs.Ythplooifbkopgaa
