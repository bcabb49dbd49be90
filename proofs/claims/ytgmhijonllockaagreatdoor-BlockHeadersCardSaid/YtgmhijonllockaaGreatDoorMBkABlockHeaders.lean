/- BlockHeaders: for every input the call returns true, and each argument reads afterwards as it read before. Condition: the package variables lightclient/sha.k and lightclient/sha.initial begin as the program text lays them (the card ties them to the pruned copy of the text); nothing else is asked. -/
import Derived.Test.YtgmhijonllockaaGreatDoorCards
import Derived.Test.YtgmhijonllockaaGreatDoorTie
import Derived.SevenTiedAt
import Derived.Stop.Joined
import Derived.Test.YtgmhijonllockaaGreatDoorMBkA15
namespace Go.Proofs.YtgmhijonllockaaGreatDoor
set_option maxRecDepth 100000
set_option linter.unusedVariables false
set_option linter.unusedSimpArgs false
open Option.some renaming inj->QV
section
namespace blockHeadersL
open Go.ChangeShapes Go.WideShapes Go.ChangeAt Go.RowKit
theorem own:ownKnob Tryz.prog.godebug=none:=by kernel_rfl
theorem zQG:laidOutB Tryz.prog=true:=by kernel_rfl
set_option maxRecDepth 100000 in
theorem z03(os:Os)(started:os.Started)(H:Type)(enc:TypeId × Value→H) :
  ReturnsInHanded {} Tryz.checked os 7 .any (fun w args=>(Rows.blockHeadersSpec.pre enc Tryz.prog Tryz.f7 [] false w args∧laidMetH Tryz.prog zFQ w)∧sizedMet enc Tryz.prog Tryz.f7 (OpenSpec.ofChange Rows.blockHeadersSpec) false w args)
   (Rows.blockHeadersSpec.post enc Tryz.prog Tryz.f7 false true false false):=by
 refine returnsInHanded_of_change_and (C:=Tryz.checked) (X:=fun w _=>laidMetH Tryz.prog zFQ w) (fun _ _ _ hh h=>h.of_heap hh) own started (by kernel_rfl) Tryz.func7
  (ChangeSpec.witness_shaped (enc:=enc) (C:=Tryz.checked) (os:=os) (X:=fun w _=>laidMetH Tryz.prog zFQ w) false (World.doorLaid Tryz.prog 400 os) #[.agg (#[(Value.int .u32 0)]++Array.replicate 64 (Value.int .u8 0)++Array.replicate 3 (Value.int .u32 0)),.slice none 0 0] 8 rfl (World.shaped_of_RefB (by kernel_rfl) (by kernel_rfl)) (by kernel_rfl) (by kernel_rfl) (by kernel_rfl) (z16 os _)) ?_
 intro W base args ds gs before hval0 hW hcnd _ hlaid _
 have hval:∀ (j:Nat) t v,Tryz.f7.params[j]?=some t→args[j]?=some v→Value.okWide Tryz.prog W .any base t v:=hval0
 have hW':=hW
 obtain ⟨p,q,hA0,hV,rfl,hfz,hnd⟩:=hW
 have hA:DataW.TrodAll enc Tryz.prog W 0 (fun _=>true) true Tryz.f7.params.toList args.toList ds p:=hA0
 rw [Tryz.params7] at hA hval
 obtain ⟨v0,vs0,d0,ds0,p0,q0,hargs,rfl,rfl,h0,r0⟩:=trodAll_cons hA
 obtain ⟨v1,vs1,d1,ds1,p1,q1,rfl,rfl,rfl,h1,r1⟩:=trodAll_cons r0
 obtain ⟨rfl,rfl,rfl⟩:=trodAll_nil r1
 obtain rfl:args=#[v0,v1]:=by cases args; simp_all
 obtain ⟨rfl,rfl⟩:=trodVars_none hV
 have k0:=h0
 have lt0:∀ x∈p0,x.block<W.heap.size:=by obtain ⟨m,hm⟩:=k0; exact DataW.trod_lt m _ _ _ hm
 have k1:=h1
 have lt1:∀ x∈p1,x.block<W.heap.size:=by obtain ⟨m,hm⟩:=k1; exact DataW.trod_lt m _ _ _ hm
 obtain ⟨a0,wf0,rp0⟩:=z4L (ren:=zcK fg gls) (d:=20) (cts:=[.int .u32]++List.replicate 64 (.int .u8)++List.replicate 3 (.int .u32)) (by kernel_rfl) (hval 0 26 v0 rfl rfl) h0 (by kernel_rfl)
 obtain ⟨A1,len1,cap1,rfl⟩:=okWide_slice Tryz.underlying32 (hval 1 32 v1 rfl rfl)
 obtain ⟨x1,hx1,rp1⟩:=yau (r:=.any) (b0:=base) (ren:=zcK fg gls) (d:=20) (ct:=.sl ([.int .u8])) rfl h1 (by kernel_rfl)
 obtain ⟨a1,rfl,hl1,wf1⟩:=hx1.sl_inv
 clear hA0 hval0
 obtain ⟨L,hL⟩:=zQh a0 a1 wf0 hl1 wf1
 have hd:zmz zb8 L Bool [(V.agg a0),(V.sl 1 a1)] [] zyn=some true:=by
  show (aG (V.agg a0) fun x0=>aL 1 (V.sl 1 a1) fun x1=>zb8 Bool L x0 x1 (fun p=>zyn (V.sc (.bool p)) []))=some true
  rw [z9B,ycm]
  exact (hL (fun p=>zyn (V.sc (.bool p)) [])).trans rfl
 obtain ⟨v,b,hev,hk⟩:=zIi L 100 (by decide) Bool [(V.agg a0),(V.sl 1 a1)] [] zyn true hd
 have hv:=zYQ hk
 subst hv
 refine (zUo (us:=[v0,.slice A1 len1 cap1]) (w:=W) (z35 hlaid) (z9y L 100) (f:=7) (by kernel_rfl) rfl (fun i x u hx hu=>?_) hev).mono fun e W' ⟨he,bel0⟩=>?_
 ·match i,hx,hu with
  | 0,hx,hu=>cases hx; cases hu; exact rp0
  | 1,hx,hu=>cases hx; cases hu; exact rp1
  | n+2,hx,hu=>simp at hx
 ·have bel:=Kept.below bel0
  subst he
  exact ⟨_,rfl,_,_,_,[],_,[],hW',trodAll_mk1 (shut_bool Tryz.underlying4 _),(trodAll_cons_mk (Below.trod zQG (by kernel_rfl) (of_decide_eq_true (by kernel_rfl)) k0 bel lt0) (trodAll_cons_mk (Below.trod zQG (by kernel_rfl) (of_decide_eq_true (by kernel_rfl)) k1 bel lt1) trodAll_mk0)),rfl,bel.frame _,fun h=>by cases h⟩
theorem z4Q:(Rows.blockHeadersRow.wf (OpenSpec.ofChange Rows.blockHeadersSpec))=true:=by kernel_rfl
theorem z5J:(Tryz.f7.params.all (Tryz.prog.readableRec ·))=true:=by kernel_rfl
theorem z4P:(namedTie Tryz.prog Rows.blockHeadersRow.named Rows.blockHeadersSpec.vars)=true:=by kernel_rfl
theorem z44:((Rows.blockHeadersRow.stops==[]))=true:=by kernel_rfl
theorem z5p:((Rows.blockHeadersRow.knobs==[]))=true:=by kernel_rfl
theorem z5P:((Rows.blockHeadersRow.inPlace==Tryz.prog.inPlace 7))=true:=by kernel_rfl
theorem z1i:((Rows.blockHeadersRow.unfollowed==Tryz.prog.unfollowed 7))=true:=by kernel_rfl
theorem z2J:((Rows.blockHeadersRow.recurses==Tryz.prog.recurses 7))=true:=by kernel_rfl
theorem z1H:((Rows.blockHeadersRow.named==Tryz.prog.varsNamed 7))=true:=by kernel_rfl
theorem z21:((Rows.blockHeadersRow.maps==(Tryz.f7.params.toList++Rows.blockHeadersSpec.plain.varTypes Tryz.prog).any (Tryz.prog.mapsRec ·)))=true:=by kernel_rfl
theorem z2w:((Rows.blockHeadersRow.ifaces==(Tryz.f7.params.toList++Rows.blockHeadersSpec.plain.varTypes Tryz.prog).any (Tryz.prog.ifacesRec ·)))=true:=by kernel_rfl
theorem z05:((Rows.blockHeadersRow.mapsOut==Tryz.prog.mapsAmong Tryz.f7.resultTypes.toList))=true:=by kernel_rfl
theorem z1M:((Rows.blockHeadersRow.loops==(Tryz.f7.params.toList++Rows.blockHeadersSpec.plain.varTypes Tryz.prog).any (Tryz.prog.loopsFrom ·)))=true:=by kernel_rfl
theorem z1G:((Rows.blockHeadersRow.wideKeys==(Tryz.f7.params.toList++Rows.blockHeadersSpec.plain.varTypes Tryz.prog++Tryz.f7.resultTypes.toList).any (Tryz.prog.wideKeysFrom ·)))=true:=by kernel_rfl
theorem z2e:(Rows.blockHeadersSpec.vars.all (Tryz.prog.varReadable ·))=true:=by kernel_rfl
theorem z0W:(Tryz.f7.resultTypes.all (fun t=>Tryz.prog.readableRec t&&decide (t<Tryz.prog.types.size)))=true:=by kernel_rfl
theorem z1C:((Rows.blockHeadersRow.ifacesOut==Tryz.f7.resultTypes.toList.any (Tryz.prog.ifacesRec ·)))=true:=by kernel_rfl
theorem z13:((Rows.blockHeadersRow.loopsOut==Tryz.f7.resultTypes.toList.any (Tryz.prog.loopsFrom ·)))=true:=by kernel_rfl
theorem z2b:(Rows.blockHeadersRow.shortTexts.isNone)=true:=by kernel_rfl
theorem z1h:((Tryz.prog.make==some Rows.blockHeadersRow.make))=true:=by kernel_rfl
theorem z12:((Rows.blockHeadersRow.kinds==(if Rows.blockHeadersRow.domain.isEmpty then [] else Tryz.f7.params.toList.map fun t=>match Tryz.prog.underlying t with | some (.int k)=>some k | _=>none)))=true:=by kernel_rfl
theorem z2o:((Rows.blockHeadersRow.pinned==Rows.blockHeadersRow.pinnedBy))=true:=by kernel_rfl
theorem z29:((Rows.blockHeadersRow.veiled==(Tryz.f7.params.toList++Rows.blockHeadersSpec.plain.varTypes Tryz.prog++Tryz.f7.resultTypes.toList).any (Tryz.prog.veiledRec ·)))=true:=by kernel_rfl
theorem z2c:(Rows.blockHeadersRow.veiledFits Tryz.prog Tryz.f7.params.toList (Tryz.f7.params.toList++Rows.blockHeadersSpec.plain.varTypes Tryz.prog++Tryz.f7.resultTypes.toList))=true:=by kernel_rfl
theorem z1P:joinedFacts Tryz.prog 7 Tryz.f7 Rows.blockHeadersSpec Rows.blockHeadersRow=true:=by
 unfold joinedFacts
 exact (xW (xW (xW (xW (xW (xW (xW (xW (xW (xW (xW (xW (xW (xW (xW (xW (xW (xW (xW (xW (xW (xW (xW (xW (xW (xW (xW (xW (xW (xW (xW z4Q z30) z4A) z5J) z4P) z44) z20) z5p) z1N) z5P) z1i) z2J) z1H) z21) z2w) z05) z1M) z1G) z2e) z0W) z1C) z13) z4K) z2b) z1q) z1o) z1l) z1h) z12) z2o) z29) z2c)
theorem inst:Tryz.f7.isInstance Tryz.prog Rows.blockHeadersRow.origin Rows.blockHeadersRow.targs:=of_decide_eq_true (by kernel_rfl)
theorem ye:Tryz.f7.isWrapper Tryz.prog Rows.blockHeadersRow.wrapper Rows.blockHeadersRow.mainSum:=by
 unfold Func.isWrapper
 first | (rw [if_pos (by decide +kernel)]; kernel_rfl) | (rw [if_neg (by decide +kernel)]; exact ⟨rfl,rfl⟩)
theorem zft:Tryz.prog.funcNamed Rows.blockHeadersRow.func=some 7:=by kernel_rfl
theorem over:Rows.blockHeadersRow.holds Tryz.pinned (OpenSpec.ofChange Rows.blockHeadersSpec):=
 OpenClaim.holds_of_wide 7 Tryz.f7 rfl rfl rfl rfl rfl rfl rfl ⟨rfl,rfl,rfl,rfl,rfl⟩ rfl rfl rfl rfl rfl zft Tryz.func7 z1P inst ye
  (fun os started H enc _=>z03 os started H enc)
theorem card:Claim7.holds Tryz.pinned (.plain (OpenSpec.ofChange Rows.blockHeadersSpec)) Rows.blockHeadersCard:=
 Claim7.holds_tied_plain_at .later [] [.data,.data] true (true,"605e51a862096062536ad9be249d0ad3e318cc34ccb4262f49b7334d7bd3505f") false
  over (fun _ h=>by cases h) (by kernel_rfl) (fun _ h=>by cases h) blockHeaders_row_tie rfl ⟨rfl,rfl⟩ (by kernel_rfl) rfl
  (fun f fn hf hfn=>by
   obtain rfl:f=7:=QV ((show Tryz.prog.funcNamed "lightclient/lightclientlaw11.BlockHeaders"=some 7 by kernel_rfl).symm.trans hf) |>.symm
   obtain rfl:fn=Tryz.f7:=(QV (Tryz.func7.symm.trans hfn)).symm
   exact ⟨by kernel_rfl,fun j t ht=>by
    rw [Tryz.params7] at ht
    have hm:t∈[26,32]:=by simpa using Array.mem_of_getElem? ht
    have hall:([26,32].all fun u=>!Tryz.prog.wantsStandIn u)=true:=by kernel_rfl
    exact (show Tryz.prog.wantsStandIn t=false by simpa using List.all_eq_true.1 hall t hm)⟩)
  (by kernel_rfl)
end blockHeadersL
theorem blockHeaders_holds:Rows.BlockHeadersCardSaid:=blockHeadersL.card
end
end Go.Proofs.YtgmhijonllockaaGreatDoor
