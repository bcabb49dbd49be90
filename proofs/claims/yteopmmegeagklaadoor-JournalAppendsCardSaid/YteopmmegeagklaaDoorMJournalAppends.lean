/- JournalAppends: for every input the call returns true, and each argument reads afterwards as it read before. Condition: the package variables lightclient/sha.k and lightclient/sha.initial begin as the program text lays them (the card ties them to the pruned copy of the text); nothing else is asked. -/
import Derived.LaidMore
import Derived.OpenShut
import Derived.MakeChecks
import Derived.LaidLaws
import Derived.Test.YteopmmegeagklaaDoorCards
import Derived.Test.YteopmmegeagklaaDoorTie
import Derived.SevenTiedAt
import Derived.Stop.Joined
import Derived.Test.YteopmmegeagklaaDoorMJournalAppends11
namespace Go.Proofs.YteopmmegeagklaaDoor
section
open Go.ChangeShapes Go.WideShapes Go.ChangeAt Go.RowKit
set_option linter.unusedVariables false
theorem zxD {H:Type} {enc:TypeId × Value→H} {P:Program} {w:World} {base:Nat} {spare:Nat→Bool} {held:Bool} {fuel n:Nat} {t e:TypeId} {k:IntKind} {cs:List Value} {d:DataW H} {p:List MemPlace} (ht:P.underlying t=some (.array n e)) (he:P.underlying e=some (.int k)) (hc:P.cellsOf e=1)
  (ns:List Int) (hd:d=.agg (ns.map fun x=>.lit (.int k x))) (h:DataW.trod enc P w base spare held fuel t cs=some (d,p)) {i:Nat} (hi:i < n):cs[i]?=some (.int k (ns.getD i 0)):=by
 obtain ⟨xs,m,_,hx,_,hlen,hel⟩:=DataW.trod_array ht h
 have h1:=hel i hi
 rw [hc,Nat.mul_one] at h1
 have hxi:xs[i]?=some (xs[i]'(by omega)):=List.getElem?_eq_getElem _
 rw [hxi] at h1
 obtain ⟨v,e1,e2,_⟩:=DataW.trod_int he h1
 simp only [Prod.mk.injEq] at hx
 have h2:d=.agg (xs.map (·.1)):=hx.1
 rw [hd] at h2
 have h3:ns.map (fun x=>DataW.lit (H:=H) (.int k x))=xs.map (·.1):=by injection h2
 have h4:=congrArg (fun l=>l[i]?) h3
 simp only [List.getElem?_map,hxi,Option.map_some,e2] at h4
 have h5:ns[i]?=some v:=by
  cases hq:ns[i]? with
  | none=>rw [hq] at h4; cases h4
  | some q =>
   rw [hq] at h4
   simp only [Option.map_some,Option.some.injEq] at h4
   injection h4 with h6
   injection h6 with _ h7
   rw [h7]
 rw [List.getD_eq_getElem?_getD,h5]
 have h8:=congrArg (fun l=>l[0]?) e1
 simp only [List.getElem?_take,List.getElem?_drop] at h8
 simpa using h8
theorem zzQ {k:IntKind} {ns:List Int} {i:Nat} {v:V} (h:(row k ns)[i]?=some v):i < ns.length∧v=.sc (.int k (ns.getD i 0)):=by
 unfold row at h
 rw [List.getElem?_map] at h
 cases hq:ns[i]? with
 | none=>rw [hq] at h; cases h
 | some q =>
  rw [hq] at h
  obtain ⟨hi,_⟩:=List.getElem?_eq_some_iff.1 hq
  refine ⟨hi,?_⟩
  rw [List.getD_eq_getElem?_getD,hq]
  simpa using h.symm
def zv0 {H:Type}:List (String × DataW H):=[("lightclient/sha.k",Rows.laid_lightclient_sha_k),("lightclient/sha.initial",Rows.laid_lightclient_sha_initial)]
theorem gK:Tryd.prog.globalNamed "lightclient/sha.k"=some 1:=by kernel_rfl
theorem gI:Tryd.prog.globalNamed "lightclient/sha.initial"=some 0:=by kernel_rfl
theorem tK:(Tryd.prog.globals[1]?).map (·.type)=some 84:=by kernel_rfl
theorem tI:(Tryd.prog.globals[0]?).map (·.type)=some 77:=by kernel_rfl
theorem zEx {W:World} (h:laidMetH Tryd.prog zv0 W):GV (zK fg gls) W zhy:=by
 rw [MakeChecks.laidMetH_plain _ _ _ (by kernel_rfl)] at h
 obtain ⟨ps,⟨g0,t0,cs0,f0,p0,q0,hg0,ht0,hv0,hd0,⟨g1,t1,cs1,f1,p1,q1,hg1,ht1,hv1,hd1,_,_⟩,_⟩,_,_⟩:=h
 obtain rfl:=Option.some.inj (gK.symm.trans hg0)
 obtain rfl:=Option.some.inj (gI.symm.trans hg1)
 obtain rfl:=Option.some.inj (tK.symm.trans ht0)
 obtain rfl:=Option.some.inj (tI.symm.trans ht1)
 have eu:Tryd.prog.underlying 57=some (.int .u32):=by kernel_rfl
 have ec:Tryd.prog.cellsOf 57=1:=by kernel_rfl
 have ek:Tryd.prog.underlying 84=some (.array 64 57):=by kernel_rfl
 have ei:Tryd.prog.underlying 77=some (.array 8 57):=by kernel_rfl
 have dk:(Rows.laid_lightclient_sha_k:DataW Unit)=.agg (kc.map fun x=>.lit (.int .u32 x)):=rfl
 have di:(Rows.laid_lightclient_sha_initial:DataW Unit)=.agg (init0.map fun x=>.lit (.int .u32 x)):=rfl
 intro g cs hg i v hv
 have hg':(gls.find? (fun e=>e.1 == g)).map (·.2)=some cs:=hg
 by_cases hk:g=1
 ·subst hk
  obtain rfl:gk_sha_k=cs:=Option.some.inj ((show (gls.find? (fun e=>e.1 == 1)).map (·.2)=some gk_sha_k from rfl).symm.trans hg')
  obtain ⟨hi,rfl⟩:=zzQ (k:=.u32) (ns:=kc) hv
  refine ⟨_,rfl,rfl,fun hw=>hw,?_⟩
  rw [World.var?_cell gK hv0 i,Array.getElem?_toList.symm]
  exact zxD ek eu ec kc dk hd0 hi
 ·by_cases hk2:g=0
  ·subst hk2
   obtain rfl:gk_sha_initial=cs:=Option.some.inj ((show (gls.find? (fun e=>e.1 == 0)).map (·.2)=some gk_sha_initial from rfl).symm.trans hg')
   obtain ⟨hi,rfl⟩:=zzQ (k:=.u32) (ns:=init0) hv
   refine ⟨_,rfl,rfl,fun hw=>hw,?_⟩
   rw [World.var?_cell gI hv1 i,Array.getElem?_toList.symm]
   exact zxD ei eu ec init0 di hd1 hi
  ·exfalso
   have e:gls=[(0,gk_sha_initial),(1,gk_sha_k)]:=rfl
   rw [e] at hg'
   simp only [List.find?_cons,List.find?_nil,beq_eq_false_iff_ne.2 (Ne.symm hk),beq_eq_false_iff_ne.2 (Ne.symm hk2)] at hg'
   cases hg'
theorem zDJ (os:Os) (args:Array Value):laidMetH Tryd.prog zv0 ((World.doorLaid Tryd.prog 400 os).forCall (fun _ _=>0) ⟨#[],args,[]⟩).memory :=
 laidMetH_of_parts3 (fuel:=8) (laidMet_of_run' 8 (by kernel_rfl) (by kernel_rfl)) (by kernel_rfl) (by kernel_rfl)
end
section
namespace journalAppendsL
open Go.ChangeShapes Go.WideShapes Go.ChangeAt Go.RowKit
set_option linter.unusedVariables false
theorem own:ownKnob Tryd.prog.godebug=none:=by kernel_rfl
theorem ztM:laidOutB Tryd.prog=true:=by kernel_rfl
set_option maxRecDepth 100000 in
theorem zEM (os:Os) (started:os.Started) (H:Type) (enc:TypeId × Value→H) :
  ReturnsInHanded {} Tryd.checked os 3 .any (fun w args=>(Rows.journalAppendsSpec.pre enc Tryd.prog Tryd.f3 [] false w args∧laidMetH Tryd.prog zv0 w)∧sizedMet enc Tryd.prog Tryd.f3 (OpenSpec.ofChange Rows.journalAppendsSpec) false w args)
   (Rows.journalAppendsSpec.post enc Tryd.prog Tryd.f3 false true false false):=by
 refine returnsInHanded_of_change_and (C:=Tryd.checked) (X:=fun w _=>laidMetH Tryd.prog zv0 w) (fun _ _ _ hh h=>h.of_heap hh) own started (by kernel_rfl) Tryd.func3
  (ChangeSpec.witness_shaped (enc:=enc) (C:=Tryd.checked) (os:=os) (X:=fun w _=>laidMetH Tryd.prog zv0 w) false (World.doorLaid Tryd.prog 400 os) #[.slice none 0 0,.slice none 0 0,.agg (Array.replicate 2 (Value.int .i64 0)++#[(Value.slice none 0 0)]),.int .i64 0] 8 rfl (World.shaped_of_RefB (by kernel_rfl) (by kernel_rfl)) (by kernel_rfl) (by kernel_rfl) (by kernel_rfl) (zDJ os _)) ?_
 intro W base args ds gs before hval0 hW hcnd _ hlaid _
 have hval:∀ (j:Nat) t v,Tryd.f3.params[j]?=some t→args[j]?=some v→Value.okWide Tryd.prog W .any base t v:=hval0
 have hW':=hW
 obtain ⟨p,q,hA0,hV,rfl,hfz,hnd⟩:=hW
 have hA:DataW.TrodAll enc Tryd.prog W 0 (fun _=>true) true Tryd.f3.params.toList args.toList ds p:=hA0
 rw [Tryd.params3] at hA hval
 obtain ⟨v0,vs0,d0,ds0,p0,q0,hargs,rfl,rfl,h0,r0⟩:=trodAll_cons hA
 obtain ⟨v1,vs1,d1,ds1,p1,q1,rfl,rfl,rfl,h1,r1⟩:=trodAll_cons r0
 obtain ⟨v2,vs2,d2,ds2,p2,q2,rfl,rfl,rfl,h2,r2⟩:=trodAll_cons r1
 obtain ⟨v3,vs3,d3,ds3,p3,q3,rfl,rfl,rfl,h3,r3⟩:=trodAll_cons r2
 obtain ⟨rfl,rfl,rfl⟩:=trodAll_nil r3
 obtain rfl:args=#[v0,v1,v2,v3]:=by cases args; simp_all
 obtain ⟨rfl,rfl⟩:=trodVars_none hV
 have k0:=h0
 have lt0:∀ x ∈ p0,x.block < W.heap.size:=by obtain ⟨m,hm⟩:=k0; exact DataW.trod_lt m _ _ _ hm
 have k1:=h1
 have lt1:∀ x ∈ p1,x.block < W.heap.size:=by obtain ⟨m,hm⟩:=k1; exact DataW.trod_lt m _ _ _ hm
 have k2:=h2
 have lt2:∀ x ∈ p2,x.block < W.heap.size:=by obtain ⟨m,hm⟩:=k2; exact DataW.trod_lt m _ _ _ hm
 have k3:=h3
 have lt3:∀ x ∈ p3,x.block < W.heap.size:=by obtain ⟨m,hm⟩:=k3; exact DataW.trod_lt m _ _ _ hm
 obtain ⟨A0,len0,cap0,rfl⟩:=okWide_slice Tryd.underlying22 (hval 0 22 v0 rfl rfl)
 obtain ⟨x0,hx0,rp0⟩:=zAz (r:=.any) (b0:=base) (ren:=zK fg gls) (d:=20) (ct:=.sl ([.int .i64])) rfl h0 (by kernel_rfl)
 obtain ⟨a0,rfl,hl0,wf0⟩:=hx0.sl_inv
 obtain ⟨A1,len1,cap1,rfl⟩:=okWide_slice Tryd.underlying23 (hval 1 23 v1 rfl rfl)
 obtain ⟨x1,hx1,rp1⟩:=zAz (r:=.any) (b0:=base) (ren:=zK fg gls) (d:=20) (ct:=.sl ([.int .u8])) rfl h1 (by kernel_rfl)
 obtain ⟨a1,rfl,hl1,wf1⟩:=hx1.sl_inv
 obtain ⟨a2,wf2,rp2⟩:=zEr (ren:=zK fg gls) (d:=20) (cts:=List.replicate 2 (.int .i64)++[.sl ([.int .u8])]) (by kernel_rfl) (hval 2 25 v2 rfl rfl) h2 (by kernel_rfl)
 obtain ⟨a3,rfl,rfl,rfl,wf3⟩:=open_int Tryd.underlying3 (hval 3 3 v3 rfl rfl) h3
 clear hA0 hval0
 obtain ⟨L,hL⟩:=zq7 a0 a1 a2 a3 hl0 wf0 hl1 wf1 wf2 wf3
 have hd:zdD zaj L Bool [(V.sl 1 a0),(V.sl 1 a1),(V.agg a2),(V.sc (.int .i64 a3))] [] ztC=some true:=by
  show (aL 1 (V.sl 1 a0) fun x0=>aL 1 (V.sl 1 a1) fun x1=>aG (V.agg a2) fun x2=>aI .i64 (V.sc (.int .i64 a3)) fun x3=>zaj Bool L x0 x1 x2 x3 (fun p=>ztC (V.sc (.bool p)) []))=some true
  rw [zDP,zDP,zFv,zFm]
  exact (hL (fun p=>ztC (V.sc (.bool p)) [])).trans rfl
 obtain ⟨v,b,hev,hk⟩:=zo3 L 100 (by decide) Bool [(V.sl 1 a0),(V.sl 1 a1),(V.agg a2),(V.sc (.int .i64 a3))] [] ztC true hd
 have hv:=zCi hk
 subst hv
 refine (zBs (us:=[.slice A0 len0 cap0,.slice A1 len1 cap1,v2,.int .i64 a3]) (w:=W) (zEx hlaid) (zFr L 100) (f:=3) (by kernel_rfl) rfl (fun i x u hx hu=>?_) hev).mono fun e W' ⟨he,bel0⟩=>?_
 ·match i,hx,hu with
  | 0,hx,hu=>cases hx; cases hu; exact rp0
  | 1,hx,hu=>cases hx; cases hu; exact rp1
  | 2,hx,hu=>cases hx; cases hu; exact rp2
  | 3,hx,hu=>cases hx; cases hu; exact .sc _ rfl
  | n+4,hx,hu=>simp at hx
 ·have bel:=Kept.below bel0
  subst he
  exact ⟨_,rfl,_,_,_,[],_,[],hW',trodAll_mk1 (shut_bool Tryd.underlying4 _),(trodAll_cons_mk (Below.trod ztM (by kernel_rfl) (of_decide_eq_true (by kernel_rfl)) k0 bel lt0) (trodAll_cons_mk (Below.trod ztM (by kernel_rfl) (of_decide_eq_true (by kernel_rfl)) k1 bel lt1) (trodAll_cons_mk (Below.trod ztM (by kernel_rfl) (of_decide_eq_true (by kernel_rfl)) k2 bel lt2) (trodAll_cons_mk (Below.trod ztM (by kernel_rfl) (of_decide_eq_true (by kernel_rfl)) k3 bel lt3) trodAll_mk0)))),rfl,bel.frame _,fun h=>by cases h⟩
theorem over:Rows.journalAppendsRow.holds Tryd.pinned (OpenSpec.ofChange Rows.journalAppendsSpec) :=
 OpenClaim.holds_of_wide 3 Tryd.f3 rfl rfl rfl rfl rfl rfl rfl ⟨rfl,rfl,rfl,rfl,rfl⟩ rfl rfl rfl rfl rfl (by kernel_rfl) Tryd.func3 (by kernel_rfl)
  (of_decide_eq_true (by kernel_rfl)) (by unfold Func.isWrapper; first | (rw [if_pos (by decide +kernel)]; kernel_rfl) | (rw [if_neg (by decide +kernel)]; exact ⟨rfl,rfl⟩))
  (fun os started H enc _=>zEM os started H enc)
theorem card:Claim7.holds Tryd.pinned (.plain (OpenSpec.ofChange Rows.journalAppendsSpec)) Rows.journalAppendsCard :=
 Claim7.holds_tied_plain_at .later [] [.data,.data] true (true,"ba4af9d7795a5c4520f42b0bea24d25edc0cadad41495e125cc72112383985d4") false
  over (fun _ h=>by cases h) (by kernel_rfl) (fun _ h=>by cases h) journalAppends_row_tie rfl ⟨rfl,rfl⟩ (by kernel_rfl) rfl
  (fun f fn hf hfn=>by
   obtain rfl:f=3:=Option.some.inj ((show Tryd.prog.funcNamed "lightclient/lightclientlaw41.JournalAppends"=some 3 by kernel_rfl).symm.trans hf) |>.symm
   obtain rfl:fn=Tryd.f3:=(Option.some.inj (Tryd.func3.symm.trans hfn)).symm
   exact ⟨by kernel_rfl,fun j t ht=>by
    rw [Tryd.params3] at ht
    have hm:t ∈ [22,23,25,3]:=by simpa using Array.mem_of_getElem? ht
    have hall:([22,23,25,3].all fun u=>!Tryd.prog.wantsStandIn u)=true:=by kernel_rfl
    exact (show Tryd.prog.wantsStandIn t=false by simpa using List.all_eq_true.1 hall t hm)⟩)
  (by kernel_rfl)
end journalAppendsL
theorem journalAppends_holds:Rows.JournalAppendsCardSaid:=journalAppendsL.card
end
end Go.Proofs.YteopmmegeagklaaDoor
