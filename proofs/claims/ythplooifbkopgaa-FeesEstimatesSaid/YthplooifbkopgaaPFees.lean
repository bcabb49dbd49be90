/- fees: counts, bounds and estimates of the program and of the document are the same. -/
import Derived.Test.YthplooifbkopgaaPMill
namespace Go.Proofs.Ythplooifbkopgaa
set_option linter.unusedVariables false
set_option linter.unusedSimpArgs false
set_option maxRecDepth 100000
/-- a sample: 32 bytes, class, seen, confirmed -/
structure Smp where
  id : List Int
  c : Int
  s : Int
  f : Int
  hid : id.length = 32
def Smp.row (x : Smp) : List V := Go.Proofs.Ythplooifbkopgaa.row .u8 x.id ++ [.sc (.int .i64 x.c), .sc (.int .i64 x.s), .sc (.int .i64 x.f)]
theorem Smp.len (x : Smp) : x.row.length = 35 := by simp [Smp.row, row_len, x.hid]
theorem Smp.g32 (x : Smp) : x.row[32]? = some (.sc (.int .i64 x.c)) := by simp [Smp.row, row_len, x.hid]
theorem Smp.g33 (x : Smp) : x.row[33]? = some (.sc (.int .i64 x.s)) := by simp [Smp.row, row_len, x.hid]
theorem Smp.g34 (x : Smp) : x.row[34]? = some (.sc (.int .i64 x.f)) := by simp [Smp.row, row_len, x.hid]
theorem Smp.take (x : Smp) : x.row.take 35 = x.row := List.take_of_length_le (by rw [x.len]; omega)
theorem Smp.take32 (x : Smp) : x.row.take 32 = Go.Proofs.Ythplooifbkopgaa.row .u8 x.id := by
  rw [Smp.row, List.take_append_of_le_length (by rw [row_len, x.hid]; omega), List.take_of_length_le (by rw [row_len, x.hid]; omega)]
theorem Smp.set34 (x : Smp) (v : Int) : x.row.set 34 (.sc (.int .i64 v)) = (Smp.row ⟨x.id, x.c, x.s, v, x.hid⟩) := by
  simp only [Smp.row]
  rw [List.set_append_right _ _ (by rw [row_len, x.hid]; omega), row_len, x.hid]
  rfl
theorem smp_set {z : List V} (hz : z.length = 35) (x : Smp) : setAt z 0 x.row = x.row := setAt_all (by rw [x.len, hz])
def smps (l : List Smp) : List (List V) := l.map Smp.row
theorem smps_len (l : List Smp) : (smps l).length = l.length := by simp [smps]
theorem smps_get {l : List Smp} {i : Nat} (h : i < l.length) : (smps l)[i]? = some l[i].row := by simp [smps, h]
theorem smps_each (l : List Smp) : ∀ e ∈ smps l, e.length = 35 := by
  intro e he
  obtain ⟨x, _, rfl⟩ := List.mem_map.1 he
  exact x.len
/-! counts -/
def cstep (cl bl h : Int) (x : Smp) (p : Int × Int) : Int × Int :=
  if x.c = cl then
    if x.f ≥ 1 then (if IntKind.wrap .i64 (x.f - x.s) ≤ bl then (IntKind.wrap .i64 (p.1 + 1), IntKind.wrap .i64 (p.2 + 1)) else (p.1, IntKind.wrap .i64 (p.2 + 1)))
    else if IntKind.wrap .i64 (x.s + bl) ≤ h then (p.1, IntKind.wrap .i64 (p.2 + 1)) else p
  else p
def cfold (cl bl h : Int) : List Smp → Int × Int → Int × Int
  | [], p => p
  | x :: l, p => cfold cl bl h l (cstep cl bl h x p)
variable {β : Type}
theorem fees_count_loop (L : Nat) (cl bl h : Int) (l : List Smp) (hl : l.length ≤ 1000000) (kx : Int → Int → Option β) : ∀ (n i : Nat) (p : Int × Int), i ≤ l.length → l.length - i < n → lbaba_fees_Count L kx n cl bl h p.1 p.2 (smps l) (l.length : Int) (i : Int) = kx (cfold cl bl h (l.drop i) p).1 (cfold cl bl h (l.drop i) p).2
  | 0, i, p, hi, hn => by omega
  | n + 1, i, p, hi, hn => by
    simp only [lbaba_fees_Count, bbaba_fees_Count, lt_eq]
    by_cases hlt : i < l.length
    · have w1 : IntKind.wrap .i64 ((i : Int) + 1) = ((i + 1 : Nat) : Int) := by rw [wrap_i64 (by omega) (by omega)]; omega
      have ih : ∀ u v : Int, lbaba_fees_Count L kx n cl bl h u v (smps l) (l.length : Int) ((i + 1 : Nat) : Int) = kx (cfold cl bl h (l.drop (i + 1)) (u, v)).1 (cfold cl bl h (l.drop (i + 1)) (u, v)).2 := fun u v => fees_count_loop L cl bl h l hl kx n (i + 1) (u, v) (by omega) (by omega)
      rw [ifb_pos (by omega), idx_nat (smps_get hlt), List.drop_eq_getElem_cons hlt, cfold, l[i].take, chk_true (by simp [l[i].len]), smp_set (by simp), cI_some l[i].g32, cI_some l[i].g34, cI_some l[i].g33, w1]
      simp only [ifb_bne, ifb_dec, cI_some l[i].g34, cI_some l[i].g33]
      unfold cstep
      by_cases h1 : l[i].c = cl <;> by_cases h2 : l[i].f ≥ 1 <;> by_cases h3 : IntKind.wrap .i64 (l[i].f - l[i].s) ≤ bl <;> by_cases h4 : IntKind.wrap .i64 (l[i].s + bl) ≤ h <;> simp only [h1, h2, h3, h4, if_true, if_false] <;> exact ih _ _
    · rw [ifb_neg (by omega), List.drop_of_length_le (by omega)]
      rfl
theorem fees_count (L : Nat) (cl bl h : Int) (l : List Smp) (hl : l.length ≤ 1000000) (hL : l.length < L) (k : Int → Int → Option β) : F_fees_Count β L (smps l) cl bl h k = k (cfold cl bl h l (0, 0)).1 (cfold cl bl h l (0, 0)).2 := by
  simp only [F_fees_Count, R_fees_Count, e_fees_Count, smps_len]
  exact fees_count_loop L cl bl h l hl _ L 0 (0, 0) (by omega) (by omega)
theorem ref_count_loop (L : Nat) (cl bl h : Int) (l : List Smp) (hl : l.length ≤ 1000000) (kx : Int → Int → Option β) : ∀ (n i : Nat) (p : Int × Int), i ≤ l.length → l.length - i < n → lbbaba_ref33_Count L kx n (smps l) cl bl h p.1 p.2 (i : Int) = kx (cfold cl bl h (l.drop i) p).1 (cfold cl bl h (l.drop i) p).2
  | 0, i, p, hi, hn => by omega
  | n + 1, i, p, hi, hn => by
    simp only [lbbaba_ref33_Count, bbbaba_ref33_Count, lt_eq, smps_len]
    by_cases hlt : i < l.length
    · have w1 : IntKind.wrap .i64 ((i : Int) + 1) = ((i + 1 : Nat) : Int) := by rw [wrap_i64 (by omega) (by omega)]; omega
      have ih : ∀ u v : Int, lbbaba_ref33_Count L kx n (smps l) cl bl h u v ((i + 1 : Nat) : Int) = kx (cfold cl bl h (l.drop (i + 1)) (u, v)).1 (cfold cl bl h (l.drop (i + 1)) (u, v)).2 := fun u v => ref_count_loop L cl bl h l hl kx n (i + 1) (u, v) (by omega) (by omega)
      rw [ifb_pos (by omega), idx_nat (smps_get hlt), List.drop_eq_getElem_cons hlt, cfold, l[i].take, chk_true (by simp [l[i].len]), smp_set (by simp), cI_some l[i].g32, cI_some l[i].g34, w1]
      simp only [ifb_bne, ifb_dec, cI_some l[i].g34, cI_some l[i].g33]
      unfold cstep
      by_cases h1 : l[i].c = cl <;> by_cases h2 : l[i].f ≥ 1 <;> by_cases h3 : IntKind.wrap .i64 (l[i].f - l[i].s) ≤ bl <;> by_cases h4 : IntKind.wrap .i64 (l[i].s + bl) ≤ h <;>
        simp only [h1, h2, h3, h4, if_true, if_false, show (l[i].f < 1) ↔ ¬ (l[i].f ≥ 1) by omega, show (IntKind.wrap .i64 (l[i].s + bl) > h) ↔ ¬ (IntKind.wrap .i64 (l[i].s + bl) ≤ h) by omega, not_true_eq_false, not_false_eq_true] <;> exact ih _ _
    · rw [ifb_neg (by omega), List.drop_of_length_le (by omega)]
      rfl
theorem ref_count (L : Nat) (cl bl h : Int) (l : List Smp) (hl : l.length ≤ 1000000) (hL : l.length < L) (k : Int → Int → Option β) : F_ref33_Count β L (smps l) cl bl h k = k (cfold cl bl h l (0, 0)).1 (cfold cl bl h l (0, 0)).2 := by
  simp only [F_ref33_Count, R_ref33_Count, e_ref33_Count]
  exact ref_count_loop L cl bl h l hl _ L 0 (0, 0) (by omega) (by omega)
/-! bounds: 24 of them, by running -/
theorem bound_ex (L : Nat) (hL : 100 ≤ L) (c : Int) (h0 : 0 ≤ c) (h1 : c ≤ 23) : ∃ b : Int, ∀ (β : Type) (k : Int → Option β), F_fees_Bound β L c k = k b ∧ F_ref33_Bound β L c k = k b := by
  obtain ⟨m, rfl⟩ : ∃ m, L = m + 100 := ⟨L - 100, by omega⟩
  have key : ∀ c : Nat, c ≤ 23 → ∃ b : Int, ∀ (β : Type) (k : Int → Option β), F_fees_Bound β (m + 100) (c : Int) k = k b ∧ F_ref33_Bound β (m + 100) (c : Int) k = k b := by
    intro c hc
    rcases c with _ | _ | _ | _ | _ | _ | _ | _ | _ | _ | _ | _ | _ | _ | _ | _ | _ | _ | _ | _ | _ | _ | _ | _ | c
    · exact ⟨10, fun β k => ⟨by kernel_rfl, by kernel_rfl⟩⟩
    · exact ⟨15, fun β k => ⟨by kernel_rfl, by kernel_rfl⟩⟩
    · exact ⟨22, fun β k => ⟨by kernel_rfl, by kernel_rfl⟩⟩
    · exact ⟨33, fun β k => ⟨by kernel_rfl, by kernel_rfl⟩⟩
    · exact ⟨49, fun β k => ⟨by kernel_rfl, by kernel_rfl⟩⟩
    · exact ⟨73, fun β k => ⟨by kernel_rfl, by kernel_rfl⟩⟩
    · exact ⟨109, fun β k => ⟨by kernel_rfl, by kernel_rfl⟩⟩
    · exact ⟨163, fun β k => ⟨by kernel_rfl, by kernel_rfl⟩⟩
    · exact ⟨244, fun β k => ⟨by kernel_rfl, by kernel_rfl⟩⟩
    · exact ⟨366, fun β k => ⟨by kernel_rfl, by kernel_rfl⟩⟩
    · exact ⟨549, fun β k => ⟨by kernel_rfl, by kernel_rfl⟩⟩
    · exact ⟨823, fun β k => ⟨by kernel_rfl, by kernel_rfl⟩⟩
    · exact ⟨1234, fun β k => ⟨by kernel_rfl, by kernel_rfl⟩⟩
    · exact ⟨1851, fun β k => ⟨by kernel_rfl, by kernel_rfl⟩⟩
    · exact ⟨2776, fun β k => ⟨by kernel_rfl, by kernel_rfl⟩⟩
    · exact ⟨4164, fun β k => ⟨by kernel_rfl, by kernel_rfl⟩⟩
    · exact ⟨6246, fun β k => ⟨by kernel_rfl, by kernel_rfl⟩⟩
    · exact ⟨9369, fun β k => ⟨by kernel_rfl, by kernel_rfl⟩⟩
    · exact ⟨14053, fun β k => ⟨by kernel_rfl, by kernel_rfl⟩⟩
    · exact ⟨21079, fun β k => ⟨by kernel_rfl, by kernel_rfl⟩⟩
    · exact ⟨31618, fun β k => ⟨by kernel_rfl, by kernel_rfl⟩⟩
    · exact ⟨47427, fun β k => ⟨by kernel_rfl, by kernel_rfl⟩⟩
    · exact ⟨71140, fun β k => ⟨by kernel_rfl, by kernel_rfl⟩⟩
    · exact ⟨106710, fun β k => ⟨by kernel_rfl, by kernel_rfl⟩⟩
    · omega
  obtain ⟨n, rfl⟩ : ∃ n : Nat, c = n := ⟨c.toNat, by omega⟩
  exact key n (by omega)
/-! estimates -/
theorem in_ok (L : Nat) (n a b : Int) (k : Bool → Option β) : F_ref33_in β L n a b k = k (decide (a ≤ n ∧ n ≤ b)) := by
  simp only [F_ref33_in, R_ref33_in, ifb_dec]
  by_cases h1 : n ≥ a <;> by_cases h2 : n ≤ b <;> simp [h1, h2, show a ≤ n ↔ n ≥ a from Iff.rfl]
theorem est_loop (L : Nat) (hL : 100 ≤ L) (l : List Smp) (hl : l.length ≤ 1000000) (hL2 : l.length < L) (p1 p2 p3 p4 p5 : Int) : ∀ (n c : Nat) (x y z : Int), c ≤ 24 → c < n → ∃ r : Int, ∀ (β : Type) (kx : Int → Option β), lbbbaba_fees_Estimate F_fees_Count F_fees_Bound L kx n (smps l) p1 p2 p3 p4 p5 x y z ((c : Int) - 1) = kx r ∧ lbbbaba_ref33_Estimate F_ref33_in F_ref33_Count F_ref33_Bound L kx n (smps l) p1 p2 p3 p4 p5 x y z ((c : Int) - 1) = kx r
  | 0, c, x, y, z, hc, hn => by omega
  | n + 1, c, x, y, z, hc, hn => by
    simp only [lbbbaba_fees_Estimate, bbbbaba_fees_Estimate, lbbbaba_ref33_Estimate, bbbbaba_ref33_Estimate, lt_eq]
    rcases c with _ | c
    · refine ⟨x, fun β kx => ?_⟩
      rw [ifb_neg (by omega), ifb_neg (by omega)]
      exact ⟨rfl, rfl⟩
    · have e0 : ((c + 1 : Nat) : Int) - 1 = (c : Int) := by omega
      have e1 : IntKind.wrap .i64 ((c : Int) - 1) = (c : Int) - 1 := wrap_i64 (by omega) (by omega)
      simp only [e0, e1]
      obtain ⟨b, hb⟩ := bound_ex L hL c (by omega) (by omega)
      simp only [fees_count L _ _ _ l hl hL2, ref_count L _ _ _ l hl hL2, hb]
      simp only [ifb_dec]
      by_cases h1 : IntKind.wrap .i64 (z + (cfold c p1 p5 l (0, 0)).2) < p4
      · obtain ⟨r, hr⟩ := est_loop L hL l hl hL2 p1 p2 p3 p4 p5 n c x (IntKind.wrap .i64 (y + (cfold c p1 p5 l (0, 0)).1)) (IntKind.wrap .i64 (z + (cfold c p1 p5 l (0, 0)).2)) (by omega) (by omega)
        refine ⟨r, fun β kx => ?_⟩
        simp only [show ((c : Int) ≥ 0) from by omega, h1, if_true]
        exact hr β kx
      · by_cases h2 : IntKind.wrap .i64 (IntKind.wrap .i64 (y + (cfold c p1 p5 l (0, 0)).1) * p3) < IntKind.wrap .i64 (p2 * IntKind.wrap .i64 (z + (cfold c p1 p5 l (0, 0)).2))
        · refine ⟨x, fun β kx => ?_⟩
          simp only [show ((c : Int) ≥ 0) from by omega, h1, h2, if_true, if_false]
          exact ⟨trivial, trivial⟩
        · obtain ⟨r, hr⟩ := est_loop L hL l hl hL2 p1 p2 p3 p4 p5 n c b 0 0 (by omega) (by omega)
          refine ⟨r, fun β kx => ?_⟩
          simp only [show ((c : Int) ≥ 0) from by omega, h1, h2, if_true, if_false]
          exact hr β kx
theorem est_ex (L : Nat) (hL : 100 ≤ L) (l : List Smp) (hl : l.length ≤ 1000000) (hL2 : l.length < L) (p1 p2 p3 p4 p5 : Int) : ∃ r e : Int, ∀ (β : Type) (k : Int → Int → Option β), F_fees_Estimate β L (smps l) p1 p2 p3 p4 p5 k = k r e ∧ F_ref33_Estimate β L (smps l) p1 p2 p3 p4 p5 k = k r e := by
  simp only [F_fees_Estimate, R_fees_Estimate, e_fees_Estimate, F_ref33_Estimate, R_ref33_Estimate, e_ref33_Estimate, in_ok, ifb_decT, ifb_dec]
  by_cases g : (1 ≤ p1 ∧ p1 ≤ 24) ∧ (1 ≤ p3 ∧ p3 ≤ 1000) ∧ (0 ≤ p2 ∧ p2 ≤ p3) ∧ (1 ≤ p4 ∧ p4 ≤ 2048)
  · obtain ⟨r, hr⟩ := est_loop L hL l hl hL2 p1 p2 p3 p4 p5 L 24 0 0 0 (by omega) (by omega)
    have hr : ∀ (β : Type) (kx : Int → Option β), lbbbaba_fees_Estimate F_fees_Count F_fees_Bound L kx L (smps l) p1 p2 p3 p4 p5 0 0 0 23 = kx r ∧ lbbbaba_ref33_Estimate F_ref33_in F_ref33_Count F_ref33_Bound L kx L (smps l) p1 p2 p3 p4 p5 0 0 0 23 = kx r := hr
    refine ⟨if r = 0 then 0 else r, if r = 0 then 330 else 0, fun β k => ?_⟩
    rw [if_neg (by omega), if_neg (by omega), if_neg (by omega), if_neg (by omega), if_neg (by omega), if_neg (by omega), if_neg (by omega), if_neg (by omega), if_pos g.1, if_pos g.2.1, if_pos g.2.2.1, if_pos g.2.2.2, (hr β _).1, (hr β _).2]
    simp only [rbbbabax0_fees_Estimate, rbbbabax0_ref33_Estimate, ifb_beq]
    by_cases h0 : r = 0 <;> simp [h0]
  · refine ⟨0, 5, fun β k => ⟨?_, ?_⟩⟩
    · repeat' split
      all_goals first | rfl | omega
    · repeat' split
      all_goals first | rfl | omega
end Go.Proofs.Ythplooifbkopgaa
