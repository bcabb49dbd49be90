/- fees: the samples that a deck makes. -/
import Derived.Test.YthplooifbkopgaaPU2
namespace Go.Proofs.Ythplooifbkopgaa
set_option linter.unusedVariables false
set_option linter.unusedSimpArgs false
set_option maxRecDepth 100000
def BS : List Int := [10, 15, 22, 33, 49, 73, 109, 163, 244, 366, 549, 823, 1234, 1851, 2776, 4164, 6246, 9369, 14053, 21079, 31618, 47427, 71140, 106710]
def clF (rate : Int) : List Int → Nat → Int → Int
  | [], _, x => x
  | b :: l, c, x => clF rate l (c + 1) (if b ≤ rate then (c : Int) else x)
theorem rbound (L : Nat) (hL : 100 ≤ L) (c : Nat) (h : c < BS.length) : ∀ (β : Type) (k : Int → Option β), F_ref33_Bound β L (c : Int) k = k BS[c] := by
  obtain ⟨m, rfl⟩ : ∃ m, L = m + 100 := ⟨L - 100, by omega⟩
  have h' : c < 24 := h
  rcases c with _ | _ | _ | _ | _ | _ | _ | _ | _ | _ | _ | _ | _ | _ | _ | _ | _ | _ | _ | _ | _ | _ | _ | _ | c
  · intro β k; kernel_rfl
  · intro β k; kernel_rfl
  · intro β k; kernel_rfl
  · intro β k; kernel_rfl
  · intro β k; kernel_rfl
  · intro β k; kernel_rfl
  · intro β k; kernel_rfl
  · intro β k; kernel_rfl
  · intro β k; kernel_rfl
  · intro β k; kernel_rfl
  · intro β k; kernel_rfl
  · intro β k; kernel_rfl
  · intro β k; kernel_rfl
  · intro β k; kernel_rfl
  · intro β k; kernel_rfl
  · intro β k; kernel_rfl
  · intro β k; kernel_rfl
  · intro β k; kernel_rfl
  · intro β k; kernel_rfl
  · intro β k; kernel_rfl
  · intro β k; kernel_rfl
  · intro β k; kernel_rfl
  · intro β k; kernel_rfl
  · intro β k; kernel_rfl
  · omega
theorem rclass (L : Nat) (hL : 100 ≤ L) (rate : Int) (β : Type) (k : Int → Option β) : F_ref33_Class β L rate k = k (clF rate BS 0 (-1)) := by
  have loop : ∀ (m c : Nat) (x : Int) (kx : Int → Option β), c ≤ 24 → 24 - c < m → lbbaba_ref33_Class F_ref33_Bound L kx m rate x (c : Int) = kx (clF rate (BS.drop c) c x) := by
    intro m
    induction m with
    | zero => intro c x kx h1 h2; omega
    | succ m ih =>
      intro c x kx h1 h2
      simp only [lbbaba_ref33_Class, bbbaba_ref33_Class, lt_eq, wrap_succ (show c ≤ 1000000000 by omega)]
      by_cases h : c < 24
      · have h' : c < BS.length := h
        rw [ifb_pos (by omega), rbound L hL c h', ifb_dec, List.drop_eq_getElem_cons h', clF]
        by_cases g : BS[c] ≤ rate
        · rw [if_pos g, if_pos g]; exact ih (c + 1) c kx (by omega) (by omega)
        · rw [if_neg g, if_neg g]; exact ih (c + 1) x kx (by omega) (by omega)
      · rw [ifb_neg (by omega), List.drop_of_length_le (by show 24 ≤ c; omega)]; rfl
  simp only [F_ref33_Class, R_ref33_Class, e_ref33_Class]
  rw [show ((0 : Int)) = ((0 : Nat) : Int) from rfl, loop L 0 (-1) _ (by omega) (by omega)]
  rfl
theorem fclass (L : Nat) (hL : 100 ≤ L) (rate : Int) (β : Type) (k : Int → Option β) : F_fees_Class β L rate k = k (clF rate BS 0 (-1)) := by
  obtain ⟨m, rfl⟩ : ∃ m, L = m + 100 := ⟨L - 100, by omega⟩
  have hb : ∀ k : List V → Option β, F_fees_bounds β (m + 100) k = k (row .i64 BS) := fun k => by kernel_rfl
  have loop : ∀ (f c : Nat) (x : Int) (kx : Int → Option β), c ≤ 24 → 24 - c < f → lbbaba_fees_Class F_fees_bounds (m + 100) kx f rate x (row .i64 BS) (c : Int) = kx (clF rate (BS.drop c) c x) := by
    intro f
    induction f with
    | zero => intro c x kx h1 h2; omega
    | succ f ih =>
      intro c x kx h1 h2
      simp only [lbbaba_fees_Class, bbbaba_fees_Class, lt_eq, wrap_succ (show c ≤ 1000000000 by omega), Int.toNat_natCast]
      by_cases h : c < 24
      · have h' : c < BS.length := h
        have hc : (row .i64 BS)[c * 1]? = some (.sc (.int .i64 BS[c])) := by simp [row, h']
        rw [ifb_pos (by omega), chk_true (by omega), cI_some hc, ifb_dec, List.drop_eq_getElem_cons h', clF]
        by_cases g : BS[c] ≤ rate
        · rw [if_pos g, if_pos g]; exact ih (c + 1) c kx (by omega) (by omega)
        · rw [if_neg g, if_neg g]; exact ih (c + 1) x kx (by omega) (by omega)
      · rw [ifb_neg (by omega), List.drop_of_length_le (by show 24 ≤ c; omega)]; rfl
  simp only [F_fees_Class, R_fees_Class, e_fees_Class, hb]
  rw [show ((0 : Int)) = ((0 : Nat) : Int) from rfl, loop (m + 100) 0 (-1) _ (by omega) (by omega)]
  rfl
theorem in_ok {β : Type} (L : Nat) (n a b : Int) (k : Bool → Option β) : F_ref33_in β L n a b k = k (decide (a ≤ n ∧ n ≤ b)) := by
  simp only [F_ref33_in, R_ref33_in, ifb_dec]
  by_cases h1 : n ≥ a <;> by_cases h2 : n ≤ b <;> simp [h1, h2, show a ≤ n ↔ n ≥ a from Iff.rfl]
theorem find_loop {β : Type} (L : Nat) (id : List Int) (hid : id.length = 32) (l : List Smp) (hl : l.length ≤ 1000000) (k : Int → Option β) : ∀ (m i : Nat), i ≤ l.length → l.length - i < m →
    lbaba_ref33_find L (fun p4 => rbabaret_ref33_find L p4 k) (rbabax0_ref33_find L k) m (smps l) (i : Int) (row .u8 id) = k (fidx (fun x => decide (x.id = id)) (l.drop i) i)
  | 0, i, h1, h2 => by omega
  | m + 1, i, h1, h2 => by
    simp only [lbaba_ref33_find, bbaba_ref33_find, lt_eq, smps_len, wrap_succ (show i ≤ 1000000000 by omega)]
    by_cases hi : i < l.length
    · rw [ifb_pos (by omega), idx_nat (smps_get hi), chk_true (by rw [row_len, hid]; omega), l[i].take32, row32 hid, eqC_row .u8 l[i].hid hid, ifb_dec, List.drop_eq_getElem_cons hi, fidx, find_loop L id hid l hl k m (i + 1) (by omega) (by omega)]
      by_cases d : l[i].id = id
      · rw [if_pos d, if_pos (by simp [d])]; rfl
      · rw [if_neg d, if_neg (by simp [d])]
    · rw [ifb_neg (by omega), List.drop_of_length_le (by omega)]; rfl
theorem find_ok {β : Type} (L : Nat) (hL : 200000 ≤ L) (id : List Int) (hid : id.length = 32) (l : List Smp) (hl : l.length ≤ 100000) (k : Int → Option β) : F_ref33_find β L (smps l) (row .u8 id) k = k (fidx (fun x => decide (x.id = id)) l 0) := by
  simp only [F_ref33_find, R_ref33_find, e_ref33_find]
  rw [show ((0 : Int)) = ((0 : Nat) : Int) from rfl, find_loop L id hid l (by omega) k L 0 (by omega) (by omega)]
  rfl
theorem ref_observe {β : Type} (L : Nat) (hL : 200000 ≤ L) (l : List Smp) (hl : l.length ≤ 100000) (id : List Int) (hid : id.length = 32) (rate h : Int) (k : List (List V) → Int → Option β) :
    F_ref33_Observe β L (smps l) (row .u8 id) rate h k = k (smps (obsS (clF rate BS 0 (-1)) l id hid h).1) (obsS (clF rate BS 0 (-1)) l id hid h).2 := by
  simp only [F_ref33_Observe, R_ref33_Observe, rclass L (by omega), in_ok, row32 hid, find_ok L hL id hid l hl, ifb_decT, lt_eq, smps_len]
  generalize clF rate BS 0 (-1) = c
  rw [ifb_dec]
  unfold obsS
  by_cases h1 : c < 0
  · rw [if_pos h1, if_pos (.inl h1)]; rfl
  rw [if_neg h1]
  by_cases h2 : 1 ≤ h ∧ h ≤ 16777216
  rotate_left
  · rw [if_neg h2, if_pos (.inr h2)]; rfl
  rw [if_pos h2, if_neg (show ¬ (c < 0 ∨ ¬ (1 ≤ h ∧ h ≤ 16777216)) from fun q => q.elim h1 (fun z => z h2)), chk_true (by rw [row_len, hid]; omega), fidx_ge]
  cases h4 : hasId id l with
  | true =>
    have h4' : (l.any fun x => decide (x.id = id)) = true := h4
    rw [h4', ifb_true, if_pos rfl]; rfl
  | false =>
    have h4' : (l.any fun x => decide (x.id = id)) = false := h4
    rw [h4', ifb_false, if_neg (show ¬ (false = true) by simp), ifb_dec]
    by_cases h5 : (l.length : Int) ≥ 2048
    · rw [if_pos h5, if_pos (show 2048 ≤ l.length by omega)]; rfl
    rw [if_neg h5, if_neg (show ¬ 2048 ≤ l.length by omega), chk_true (by simp [sizeCap]; omega), chk_true (by rw [row_len, hid]; omega), chk_true (by rw [row_len, hid]; omega)]
    have nr := new_row id hid c h
    rw [row32 hid] at nr
    have l1 : (setAt (List.replicate 32 (V.sc (.int .u8 (0 : Int))) ++ [(V.sc (.int .i64 (0 : Int))), (V.sc (.int .i64 (0 : Int))), (V.sc (.int .i64 (0 : Int)))]) 0 (row .u8 id)).length = 35 := setAt_len35 (by simp) (by rw [row_len, hid]; omega)
    have l2 := setAt_len35 (off := 32) (new := [(V.sc (.int .i64 c))]) l1 (by simp)
    have l3 := setAt_len35 (off := 33) (new := [(V.sc (.int .i64 h))]) l2 (by simp)
    have ec : chunks 35 1 (newS id hid c h).row = [(newS id hid c h).row] := by simp [chunks, Smp.take]
    rw [chk_true (by rw [l1]; simp), chk_true (by rw [l2]; simp), chk_true (by rw [l3]; simp), nr, ec, chk_true (by simp [sizeCap, smps_len]; omega)]
    simp [smps]
theorem observe_ex (L : Nat) (hL : 200000 ≤ L) (l : List Smp) (hl : l.length ≤ 5000) (id : List Int) (hid : id.length = 32) (rate h : Int) : ∃ (l' : List Smp) (e : Int), l'.length ≤ l.length + 1 ∧ ∀ (β : Type) (k : List (List V) → Int → Option β), F_ref33_Observe β L (smps l) (row .u8 id) rate h k = k (smps l') e := by
  refine ⟨_, _, ?_, fun β k => ref_observe L hL l (by omega) id hid rate h k⟩
  unfold obsS
  split
  · simp
  · split
    · simp
    · split
      · simp
      · simp
theorem samples_ex (L : Nat) (hL : 200000 ≤ L) (d : Dk) : ∃ (l : List Smp) (d' : Dk), l.length ≤ 100 ∧ d'.l = d.l ∧ ∀ (β : Type) (k : List (List V) → List (List V) → Int → Option β), F_law33_samples β L d.es d.a k = k (smps l) d'.es d'.a := by
  have loop : ∀ (c m : Nat) (l : List Smp) (d : Dk), c < m → l.length + c ≤ 100 → ∃ (l' : List Smp) (d' : Dk), l'.length ≤ 100 ∧ d'.l = d.l ∧ ∀ (β : Type) (kx : List (List V) → List (List V) → Int → Option β), lbbaba_law33_samples F_mill_Deck_Next F_mill_Hashes F_ref33_Confirm F_mill_Hash F_ref33_Observe L kx m (smps l) (c : Int) d.es d.a = kx (smps l') d'.es d'.a := by
    intro c
    induction c with
    | zero =>
      intro m l d hm hl
      obtain ⟨m, rfl⟩ : ∃ q, m = q + 1 := ⟨m - 1, by omega⟩
      refine ⟨l, d, by omega, rfl, fun β kx => ?_⟩
      simp only [lbbaba_law33_samples, bbbaba_law33_samples]
      rw [ifb_neg (by omega)]
    | succ c ih =>
      intro m l d hm hl
      obtain ⟨m, rfl⟩ : ∃ q, m = q + 1 := ⟨m - 1, by omega⟩
      have w : IntKind.wrap .i64 (((c + 1 : Nat) : Int) - 1) = (c : Int) := by rw [wrap_i64 (by omega) (by omega)]; omega
      obtain ⟨r, d1, e1, h1, h2, q1⟩ := next_ex L d 4 (by omega) (by omega)
      by_cases hr : r = 0
      · obtain ⟨hs, d2, e2, g1, g2, q2⟩ := hashes_ex L (by omega) d1 4 (by omega) (by omega)
        obtain ⟨s, d3, e3, s1, s2, q3⟩ := next_ex L d2 20 (by omega) (by omega)
        have q4 := fun (β : Type) (k : List (List V) → Option β) => ref_confirm (β := β) L hL l (by omega) hs g1 (by omega) (IntKind.wrap .i64 (1 + s)) k
        obtain ⟨l', d', g3, g4, q5⟩ := ih m (l.map (cfS hs (IntKind.wrap .i64 (1 + s)))) d3 (by omega) (by simp; omega)
        refine ⟨l', d', g3, by rw [g4, e3, e2, e1], fun β kx => ?_⟩
        simp only [lbbaba_law33_samples, bbbaba_law33_samples, q1, lt_eq, w]
        rw [ifb_pos (by omega), ifb_beq_pos hr, q2]
        simp only [q3]
        exact (q4 β _).trans (q5 β kx)
      · obtain ⟨id, d2, e2, hid, q2⟩ := hash_ex L d1
        obtain ⟨s, d3, e3, s1, s2, q3⟩ := next_ex L d2 60 (by omega) (by omega)
        obtain ⟨t, d4, e4, t1, t2, q4⟩ := next_ex L d3 15 (by omega) (by omega)
        obtain ⟨l1, e, f1, q5⟩ := observe_ex L hL l (by omega) id hid (IntKind.wrap .i64 (10 + s)) (IntKind.wrap .i64 (1 + t))
        obtain ⟨la, da, ga, ha, qa⟩ := ih m l1 d4 (by omega) (by omega)
        obtain ⟨lb, db, gb, hb, qb⟩ := ih m l d4 (by omega) (by omega)
        by_cases he : e = 0
        · refine ⟨la, da, ga, by rw [ha, e4, e3, e2, e1], fun β kx => ?_⟩
          simp only [lbbaba_law33_samples, bbbaba_law33_samples, q1, lt_eq, w]
          rw [ifb_pos (by omega), ifb_beq_neg hr, q2]
          simp only [q3, q4, q5]
          rw [ifb_beq_pos he]
          exact qa β kx
        · refine ⟨lb, db, gb, by rw [hb, e4, e3, e2, e1], fun β kx => ?_⟩
          simp only [lbbaba_law33_samples, bbbaba_law33_samples, q1, lt_eq, w]
          rw [ifb_pos (by omega), ifb_beq_neg hr, q2]
          simp only [q3, q4, q5]
          rw [ifb_beq_neg he]
          exact qb β kx
  obtain ⟨r, d1, e1, h1, h2, q1⟩ := next_ex L d 20 (by omega) (by omega)
  obtain ⟨c, rfl⟩ : ∃ c : Nat, r = c := ⟨r.toNat, by omega⟩
  obtain ⟨l', d', g1, g2, g3⟩ := loop c L [] d1 (by omega) (by simp; omega)
  refine ⟨l', d', g1, by rw [g2, e1], fun β k => ?_⟩
  simp only [F_law33_samples, R_law33_samples, e_law33_samples, q1]
  exact g3 β _
theorem fsane (L : Nat) {β : Type} (k : Bool → Option β) : F_law33_sane β (L + 100) k = k true := by kernel_rfl
end Go.Proofs.Ythplooifbkopgaa
