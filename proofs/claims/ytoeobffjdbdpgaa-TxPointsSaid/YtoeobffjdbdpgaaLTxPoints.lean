/- TxPoints: for every input the call returns true, and each argument reads afterwards as it read before. No condition. -/
import Derived.Test.YtoeobffjdbdpgaaPTxP
import Derived.Test.YtoeobffjdbdpgaaA1
namespace Go.Proofs.Ytoeobffjdbdpgaa
namespace txPointsL
open Go.ChangeShapes Go.WideShapes Go.ChangeAt Go.RowKit
set_option linter.unusedVariables false

theorem own : ownKnob Try.prog.godebug = none := by kernel_rfl
theorem laidOut : laidOutB Try.prog = true := by kernel_rfl

set_option maxRecDepth 100000 in
theorem lifted (os : Os) (started : os.Started) (H : Type) (enc : TypeId × Value → H) :
    ReturnsInHanded {} Try.checked os 6 .any (Rows.txPointsSpec.pre6 enc Try.prog Try.f6 Rows.txPointsRow.domain false) (Rows.txPointsSpec.post enc Try.prog Try.f6 false true false false) := by
  refine returnsInHanded_of_change (C := Try.checked) own started (by kernel_rfl) Try.func6
    (ChangeSpec.witness6 (enc := enc) (C := Try.checked) false ⟨#[], #[.agg (Array.replicate 32 (Value.int .u8 0) ++ #[(Value.int .u32 0)]), .agg (Array.replicate 32 (Value.int .u8 0) ++ #[(Value.int .u32 0)]), .agg (Array.replicate 32 (Value.int .u8 0) ++ #[(Value.int .u32 0)])], []⟩ 8 (by kernel_rfl) (by kernel_rfl) (by kernel_rfl) (by kernel_rfl)) ?_
  intro W base args ds gs before hval0 hW hcnd _
  have hval : ∀ (j : Nat) t v, Try.f6.params[j]? = some t → args[j]? = some v → Value.okWide Try.prog W .any base t v := hval0
  have hW' := hW
  obtain ⟨p, q, hA0, hV, rfl, hfz, hnd⟩ := hW
  have hA : DataW.TrodAll enc Try.prog W 0 (fun _ => true) true Try.f6.params.toList args.toList ds p := hA0
  rw [Try.params6] at hA hval
  obtain ⟨v0, vs0, d0, ds0, p0, q0, hargs, rfl, rfl, h0, r0⟩ := trodAll_cons hA
  obtain ⟨v1, vs1, d1, ds1, p1, q1, rfl, rfl, rfl, h1, r1⟩ := trodAll_cons r0
  obtain ⟨v2, vs2, d2, ds2, p2, q2, rfl, rfl, rfl, h2, r2⟩ := trodAll_cons r1
  obtain ⟨rfl, rfl, rfl⟩ := trodAll_nil r2
  obtain rfl : args = #[v0, v1, v2] := by cases args; simp_all
  obtain ⟨rfl, rfl⟩ := trodVars_none hV
  have k0 := h0
  have lt0 : ∀ x ∈ p0, x.block < W.heap.size := by obtain ⟨m, hm⟩ := k0; exact DataW.trod_lt m _ _ _ hm
  have k1 := h1
  have lt1 : ∀ x ∈ p1, x.block < W.heap.size := by obtain ⟨m, hm⟩ := k1; exact DataW.trod_lt m _ _ _ hm
  have k2 := h2
  have lt2 : ∀ x ∈ p2, x.block < W.heap.size := by obtain ⟨m, hm⟩ := k2; exact DataW.trod_lt m _ _ _ hm
  obtain ⟨a0, wf0, rp0⟩ := arg_agg (ren := renOf fg) (d := 20) (cts := List.replicate 32 (.int .u8) ++ [.int .u32]) (by kernel_rfl) (hval 0 41 v0 rfl rfl) h0 (by kernel_rfl)
  obtain ⟨a1, wf1, rp1⟩ := arg_agg (ren := renOf fg) (d := 20) (cts := List.replicate 32 (.int .u8) ++ [.int .u32]) (by kernel_rfl) (hval 1 41 v1 rfl rfl) h1 (by kernel_rfl)
  obtain ⟨a2, wf2, rp2⟩ := arg_agg (ren := renOf fg) (d := 20) (cts := List.replicate 32 (.int .u8) ++ [.int .u32]) (by kernel_rfl) (hval 2 41 v2 rfl rfl) h2 (by kernel_rfl)
  clear hA0 hval0
  obtain ⟨L, hL⟩ := txPoints_plain a0 a1 a2 wf0 wf1 wf2
  obtain ⟨v, b, hev, hk⟩ := fok_law09_TxPoints L 100 (by decide) Bool [(V.agg a0), (V.agg a1), (V.agg a2)] [] kTrue true (hL (fun p => kTrue (V.sc (.bool p)) []))
  have hv := kTrue_inv hk
  subst hv
  refine (plain_call (us := [v0, v1, v2]) (w := W) (ev_ok L 100) (f := 6) (by kernel_rfl) rfl (fun i x u hx hu => ?_) hev).mono fun e W' ⟨he, bel0⟩ => ?_
  · match i, hx, hu with
    | 0, hx, hu => cases hx; cases hu; exact rp0
    | 1, hx, hu => cases hx; cases hu; exact rp1
    | 2, hx, hu => cases hx; cases hu; exact rp2
    | n + 3, hx, hu => simp at hx
  · have bel := Kept.below bel0
    subst he
    exact ⟨_, rfl, _, _, _, [], _, [], hW', trodAll_mk1 (shut_bool Try.underlying4 _), (trodAll_cons_mk (Below.trod laidOut (by kernel_rfl) (of_decide_eq_true (by kernel_rfl)) k0 bel lt0) (trodAll_cons_mk (Below.trod laidOut (by kernel_rfl) (of_decide_eq_true (by kernel_rfl)) k1 bel lt1) (trodAll_cons_mk (Below.trod laidOut (by kernel_rfl) (of_decide_eq_true (by kernel_rfl)) k2 bel lt2) trodAll_mk0))), rfl, bel.frame _, fun h => by cases h⟩

theorem over : Rows.txPointsRow.holds Try.pinned (OpenSpec.ofChange Rows.txPointsSpec) :=
  OpenClaim.holds_of_wide 6 Try.f6 rfl rfl rfl rfl rfl rfl rfl ⟨rfl, rfl, rfl, rfl, rfl⟩ rfl rfl rfl rfl rfl (by kernel_rfl) Try.func6 (by kernel_rfl)
    (of_decide_eq_true (by kernel_rfl)) (by unfold Func.isWrapper; first | (rw [if_pos (by decide +kernel)]; kernel_rfl) | (rw [if_neg (by decide +kernel)]; exact ⟨rfl, rfl⟩))
    (fun os started H enc _ => lifted os started H enc)
end txPointsL
theorem txPoints_holds : Rows.TxPointsSaid := txPointsL.over
end Go.Proofs.Ytoeobffjdbdpgaa
