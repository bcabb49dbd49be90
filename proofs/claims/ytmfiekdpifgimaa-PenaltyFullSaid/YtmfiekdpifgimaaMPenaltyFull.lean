/- PenaltyFull: for every input the call returns true, and each argument reads afterwards as it read before. No condition. -/
import Derived.Test.YtmfiekdpifgimaaMPenaltyFull9
namespace Go.Proofs.Ytmfiekdpifgimaa
section
namespace penaltyFullL
open Go.ChangeShapes Go.WideShapes Go.ChangeAt Go.RowKit
set_option linter.unusedVariables false
theorem own:ownKnob Try.prog.godebug=none:=by kernel_rfl
theorem zk2:laidOutB Try.prog=true:=by kernel_rfl
set_option maxRecDepth 100000 in
theorem zor (os:Os) (started:os.Started) (H:Type) (enc:TypeId × Value→H) :
  ReturnsInHanded {} Try.checked os 3 .any (Rows.penaltyFullSpec.pre6 enc Try.prog Try.f3 Rows.penaltyFullRow.domain false) (Rows.penaltyFullSpec.post enc Try.prog Try.f3 false true false false):=by
 refine returnsInHanded_of_change (C:=Try.checked) own started (by kernel_rfl) Try.func3
  (ChangeSpec.witness6 (enc:=enc) (C:=Try.checked) false ⟨#[],#[.int .i64 0,.int .i64 0],[]⟩ 8 (by kernel_rfl) (by kernel_rfl) (by kernel_rfl) (by kernel_rfl)) ?_
 intro W base args ds gs before hval0 hW hcnd _
 have hval:∀ (j:Nat) t v,Try.f3.params[j]?=some t→args[j]?=some v→Value.okWide Try.prog W .any base t v:=hval0
 have hW':=hW
 obtain ⟨p,q,hA0,hV,rfl,hfz,hnd⟩:=hW
 have hA:DataW.TrodAll enc Try.prog W 0 (fun _=>true) true Try.f3.params.toList args.toList ds p:=hA0
 rw [Try.params3] at hA hval
 obtain ⟨v0,vs0,d0,ds0,p0,q0,hargs,rfl,rfl,h0,r0⟩:=trodAll_cons hA
 obtain ⟨v1,vs1,d1,ds1,p1,q1,rfl,rfl,rfl,h1,r1⟩:=trodAll_cons r0
 obtain ⟨rfl,rfl,rfl⟩:=trodAll_nil r1
 obtain rfl:args=#[v0,v1]:=by cases args; simp_all
 obtain ⟨rfl,rfl⟩:=trodVars_none hV
 have k0:=h0
 have lt0:∀ x ∈ p0,x.block < W.heap.size:=by obtain ⟨m,hm⟩:=k0; exact DataW.trod_lt m _ _ _ hm
 have k1:=h1
 have lt1:∀ x ∈ p1,x.block < W.heap.size:=by obtain ⟨m,hm⟩:=k1; exact DataW.trod_lt m _ _ _ hm
 obtain ⟨a0,rfl,rfl,rfl,wf0⟩:=open_int Try.underlying3 (hval 0 3 v0 rfl rfl) h0
 obtain ⟨a1,rfl,rfl,rfl,wf1⟩:=open_int Try.underlying3 (hval 1 3 v1 rfl rfl) h1
 clear hA0 hval0
 obtain ⟨L,hL⟩:=zha a0 a1 wf0 wf1
 have hd:zas xA L Bool [(V.sc (.int .i64 a0)),(V.sc (.int .i64 a1))] [] zg4=some true:=by
  show (aI .i64 (V.sc (.int .i64 a0)) fun x0=>aI .i64 (V.sc (.int .i64 a1)) fun x1=>xA Bool L x0 x1 (fun p=>zg4 (V.sc (.bool p)) []))=some true
  rw [znx,znx]
  exact (hL (fun p=>zg4 (V.sc (.bool p)) [])).trans rfl
 obtain ⟨v,b,hev,hk⟩:=zfD L 100 (by decide) Bool [(V.sc (.int .i64 a0)),(V.sc (.int .i64 a1))] [] zg4 true hd
 have hv:=zmD hk
 subst hv
 refine (zlh (us:=[.int .i64 a0,.int .i64 a1]) (w:=W) (fun _ _ h=>by cases h) (zoK L 100) (f:=3) (by kernel_rfl) rfl (fun i x u hx hu=>?_) hev).mono fun e W' ⟨he,bel0⟩=>?_
 ·match i,hx,hu with
  | 0,hx,hu=>cases hx; cases hu; exact .sc _ rfl
  | 1,hx,hu=>cases hx; cases hu; exact .sc _ rfl
  | n+2,hx,hu=>simp at hx
 ·have bel:=Kept.below bel0
  subst he
  exact ⟨_,rfl,_,_,_,[],_,[],hW',trodAll_mk1 (shut_bool Try.underlying4 _),(trodAll_cons_mk (Below.trod zk2 (by kernel_rfl) (of_decide_eq_true (by kernel_rfl)) k0 bel lt0) (trodAll_cons_mk (Below.trod zk2 (by kernel_rfl) (of_decide_eq_true (by kernel_rfl)) k1 bel lt1) trodAll_mk0)),rfl,bel.frame _,fun h=>by cases h⟩
theorem over:Rows.penaltyFullRow.holds Try.pinned (OpenSpec.ofChange Rows.penaltyFullSpec) :=
 OpenClaim.holds_of_wide 3 Try.f3 rfl rfl rfl rfl rfl rfl rfl ⟨rfl,rfl,rfl,rfl,rfl⟩ rfl rfl rfl rfl rfl (by kernel_rfl) Try.func3 (by kernel_rfl)
  (of_decide_eq_true (by kernel_rfl)) (by unfold Func.isWrapper; first | (rw [if_pos (by decide +kernel)]; kernel_rfl) | (rw [if_neg (by decide +kernel)]; exact ⟨rfl,rfl⟩))
  (fun os started H enc _=>zor os started H enc)
end penaltyFullL
theorem penaltyFull_holds:Rows.PenaltyFullSaid:=penaltyFullL.over
end
end Go.Proofs.Ytmfiekdpifgimaa
