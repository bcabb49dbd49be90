/- FeesObserves: for every input the call returns true, and each argument reads afterwards as it read before. No condition. -/
import Derived.Test.YthplooifbkopgaaPFeesObserves
import Derived.Test.YthplooifbkopgaaA1
namespace Go.Proofs.Ythplooifbkopgaa
namespace feesObservesL
open Go.ChangeShapes Go.WideShapes Go.ChangeAt Go.RowKit
set_option linter.unusedVariables false

theorem own : ownKnob Try.prog.godebug = none := by kernel_rfl
theorem laidOut : laidOutB Try.prog = true := by kernel_rfl

set_option maxRecDepth 100000 in
theorem lifted (os : Os) (started : os.Started) (H : Type) (enc : TypeId × Value → H) :
    ReturnsInHanded {} Try.checked os 7 .any (Rows.feesObservesSpec.pre6 enc Try.prog Try.f7 Rows.feesObservesRow.domain false) (Rows.feesObservesSpec.post enc Try.prog Try.f7 false true false false) := by
  refine returnsInHanded_of_change (C := Try.checked) own started (by kernel_rfl) Try.func7
    (ChangeSpec.witness6 (enc := enc) (C := Try.checked) false ⟨#[], #[.slice none 0 0, .int .i64 0, .int .i64 0], []⟩ 8 (by kernel_rfl) (by kernel_rfl) (by kernel_rfl) (by kernel_rfl)) ?_
  intro W base args ds gs before hval0 hW hcnd _
  have hval : ∀ (j : Nat) t v, Try.f7.params[j]? = some t → args[j]? = some v → Value.okWide Try.prog W .any base t v := hval0
  have hW' := hW
  obtain ⟨p, q, hA0, hV, rfl, hfz, hnd⟩ := hW
  have hA : DataW.TrodAll enc Try.prog W 0 (fun _ => true) true Try.f7.params.toList args.toList ds p := hA0
  rw [Try.params7] at hA hval
  obtain ⟨v0, vs0, d0, ds0, p0, q0, hargs, rfl, rfl, h0, r0⟩ := trodAll_cons hA
  obtain ⟨v1, vs1, d1, ds1, p1, q1, rfl, rfl, rfl, h1, r1⟩ := trodAll_cons r0
  obtain ⟨v2, vs2, d2, ds2, p2, q2, rfl, rfl, rfl, h2, r2⟩ := trodAll_cons r1
  obtain ⟨rfl, rfl, rfl⟩ := trodAll_nil r2
  obtain rfl : args = #[v0, v1, v2] := by cases args; simp_all
  obtain ⟨rfl, rfl⟩ := trodVars_none hV
  have k0 := h0
  have lt0 : ∀ x ∈ p0, x.block < W.heap.size := by obtain ⟨m, hm⟩ := k0; exact DataW.trod_lt m _ _ _ hm
  have k1 := h1
  have lt1 : ∀ x ∈ p1, x.block < W.heap.size := by obtain ⟨m, hm⟩ := k1; exact DataW.trod_lt m _ _ _ hm
  have k2 := h2
  have lt2 : ∀ x ∈ p2, x.block < W.heap.size := by obtain ⟨m, hm⟩ := k2; exact DataW.trod_lt m _ _ _ hm
  obtain ⟨A0, len0, cap0, rfl⟩ := okWide_slice Try.underlying24 (hval 0 24 v0 rfl rfl)
  obtain ⟨x0, hx0, rp0⟩ := arg_one (r := .any) (b0 := base) (ren := renOf fg) (d := 20) (ct := .sl ([.int .i64])) rfl h0 (by kernel_rfl)
  obtain ⟨a0, rfl, hl0, wf0⟩ := hx0.sl_inv
  obtain ⟨a1, rfl, rfl, rfl, wf1⟩ := open_int Try.underlying3 (hval 1 3 v1 rfl rfl) h1
  obtain ⟨a2, rfl, rfl, rfl, wf2⟩ := open_int Try.underlying3 (hval 2 3 v2 rfl rfl) h2
  clear hA0 hval0
  obtain ⟨L, hL⟩ := feesObserves_plain a0 a1 a2 hl0 wf0 wf1 wf2
  obtain ⟨v, b, hev, hk⟩ := fok_law33_FeesObserves L 100 (by decide) Bool [(V.sl 1 a0), (V.sc (.int .i64 a1)), (V.sc (.int .i64 a2))] [] kTrue true (hL (fun p => kTrue (V.sc (.bool p)) []))
  have hv := kTrue_inv hk
  subst hv
  refine (plain_call (us := [.slice A0 len0 cap0, .int .i64 a1, .int .i64 a2]) (w := W) (ev_ok L 100) (f := 7) (by kernel_rfl) rfl (fun i x u hx hu => ?_) hev).mono fun e W' ⟨he, bel0⟩ => ?_
  · match i, hx, hu with
    | 0, hx, hu => cases hx; cases hu; exact rp0
    | 1, hx, hu => cases hx; cases hu; exact .sc _ rfl
    | 2, hx, hu => cases hx; cases hu; exact .sc _ rfl
    | n + 3, hx, hu => simp at hx
  · have bel := Kept.below bel0
    subst he
    exact ⟨_, rfl, _, _, _, [], _, [], hW', trodAll_mk1 (shut_bool Try.underlying4 _), (trodAll_cons_mk (Below.trod laidOut (by kernel_rfl) (of_decide_eq_true (by kernel_rfl)) k0 bel lt0) (trodAll_cons_mk (Below.trod laidOut (by kernel_rfl) (of_decide_eq_true (by kernel_rfl)) k1 bel lt1) (trodAll_cons_mk (Below.trod laidOut (by kernel_rfl) (of_decide_eq_true (by kernel_rfl)) k2 bel lt2) trodAll_mk0))), rfl, bel.frame _, fun h => by cases h⟩

theorem over : Rows.feesObservesRow.holds Try.pinned (OpenSpec.ofChange Rows.feesObservesSpec) :=
  OpenClaim.holds_of_wide 7 Try.f7 rfl rfl rfl rfl rfl rfl rfl ⟨rfl, rfl, rfl, rfl, rfl⟩ rfl rfl rfl rfl rfl (by kernel_rfl) Try.func7 (by kernel_rfl)
    (of_decide_eq_true (by kernel_rfl)) (by unfold Func.isWrapper; first | (rw [if_pos (by decide +kernel)]; kernel_rfl) | (rw [if_neg (by decide +kernel)]; exact ⟨rfl, rfl⟩))
    (fun os started H enc _ => lifted os started H enc)
end feesObservesL
theorem feesObserves_holds : Rows.FeesObservesSaid := feesObservesL.over
end Go.Proofs.Ythplooifbkopgaa
