/- The walk of RelayWalks. -/
import Derived.Test.YtpbbfpfmdckclaaRK
import Derived.Deep.RegionWith
import Derived.Deep.DeepCutAuto
namespace Go.Proofs.Ytpbbfpfmdckclaa
open Go.RowKit

theorem run_mk_bools (n : Nat) (hn : n ≤ 1099511627776) (w : World) :
    (Instr.makeSlice 23 (.int .i64 (n : Int)) (.int .i64 (n : Int))).run Try.prog w = .ok (.slice (some ⟨w.heap.size, 0, none⟩) n n) (w.alloc (.cells (Array.replicate n (.bool false)) 4)) := by
  obtain ⟨i, hi, hz0, hz1, hz2⟩ := info_parts Try.infoBool
  have hr := run_make (P := Try.prog) w 23 4 i (.bool false) Try.underlying23 hi hz0 .i64 .i64 n n (by omega) (by omega) (by rw [hz2]; omega) (by omega)
  rw [hz1] at hr
  simp only [Int.toNat_natCast] at hr
  rw [hr]
  congr 2
  have hmc : madeCells (Value.bool false).cells (n * 1) = Array.replicate n (.bool false) := by
    apply Array.ext
    · simp [madeCells]
    · intro j h1 h2
      simp [madeCells, Value.cells, Nat.mod_one]
  rw [hmc]
theorem rd_false {w : World} {g n : Nat} (h : Blk w g 4 (Array.replicate n (.bool false))) : Rd w No 1 (some ⟨g, 0, none⟩) (List.replicate n false).length ((List.replicate n false).map Value.bool) :=
  Rd.of_blk h id (by simp) (fun j u hu => by simpa [Array.getElem?_replicate, List.getElem?_replicate] using hu)

theorem walk_any' (f : List Bool) (A B : Option Addr) (c d : Nat) (r : List Int) (o : Int) (w : World) (O : Nat → Prop) (hr : Rd w O 1 A r.length (r.map (Value.int .i64))) (hf : Rd w O 1 B f.length (f.map Value.bool))
    (lr : r.length ≤ 9223372036854775807) (hO : ∀ k, O k → k < w.heap.size) (hl : r.length = f.length) :
    Calls Try.prog 13 #[.slice A r.length c, .slice B r.length d, .int .i64 o] w (RetL (Value.int .i64) O w (Way.walk r f o)) := by
  have := walk_any A B c d r f o w O hr hf lr hO
  rwa [← hl] at this
theorem rwalk_any' (f : List Bool) (A B : Option Addr) (c d : Nat) (r : List Int) (o : Int) (w : World) (O : Nat → Prop) (hr : Rd w O 1 A r.length (r.map (Value.int .i64))) (hf : Rd w O 1 B f.length (f.map Value.bool))
    (lr : r.length ≤ 9223372036854775807) (hO : ∀ k, O k → k < w.heap.size) (hl : r.length = f.length) :
    Calls Try.prog 14 #[.slice A r.length c, .slice B r.length d, .int .i64 o] w (RetL (Value.int .i64) O w (Way.walk r f o)) := by
  have := rwalk_any A B c d r f o w O hr hf lr hO
  rwa [← hl] at this
theorem walk_ne (A B : Option Addr) (c d : Nat) (r : List Int) (m : Nat) (o : Int) (w : World) (lr : r.length ≤ 9223372036854775807) (h : r.length ≠ m) :
    Calls Try.prog 13 #[.slice A r.length c, .slice B m d, .int .i64 o] w fun e w' => e = .returned (.slice none 0 0) ∧ w = w' := by
  have := walk_no A B c d r (List.replicate m false) o w lr (by rw [List.length_replicate]; exact fun h' => h h'.1)
  rwa [List.length_replicate] at this
def TwoWays (w : World) (D : List Int) (s16 s17 : Value) (wx : World) : Prop :=
  ∃ A6 c6 A7 c7, s16 = .slice A6 D.length c6 ∧ s17 = .slice A7 D.length c7 ∧ Rd wx No 1 A6 D.length (D.map (Value.int .i64)) ∧ Rd wx No 1 A7 D.length (D.map (Value.int .i64)) ∧ Kept No w wx

set_option maxRecDepth 100000 in
set_option maxHeartbeats 8000000 in
theorem relayWalks_walk (A : Option Addr) (c : Nat) (l : List Int) (origin : Int) (R : Option Addr) (rc : Nat) (raw : List Int) (S : Option Addr) (sc : Nat) (spies : List Bool) (w : World)
    (h : Rd w No 1 A l.length (l.map (Value.int .i64))) (hl : l.length ≤ 9223372036854775807) (_ : ∀ n ∈ l, (Lit.int .i64 n).wf = true) (_ : (Lit.int .i64 origin).wf = true)
    (hr : Rd w No 1 R raw.length (raw.map (Value.int .i64))) (hrl : raw.length ≤ 9223372036854775807) (_ : ∀ n ∈ raw, (Lit.int .i64 n).wf = true)
    (hs : Rd w No 1 S spies.length (spies.map Value.bool)) (_ : spies.length ≤ 9223372036854775807) :
    Calls Try.prog 3 #[.slice A l.length c, .int .i64 origin, .slice R raw.length rc, .slice S spies.length sc] w fun e w' => e = .returned (.bool true) ∧ Hid (Kept No w w') := by
  have HL := Lib.hid h
  have HRaw := Lib.hid hr
  have HSp := Lib.hid hs
  clear h hr hs
  by_cases hg1 : raw.length ≤ 70
  · by_cases hg2 : spies.length ≤ 70
    · go_enter Try.func3, Try.ntmps3
      have d1 : decide (70 < (raw.length : Int)) = false := by simp; omega
      have d2 : decide (70 < (spies.length : Int)) = false := by simp; omega
      go_wp2_with (go_at_call 10; refine (sane_any w).mono ?_; rintro e w1 ⟨rfl, hK1⟩)
      clear d1 d2
      refine (graph_any A c l w1 (HL.out.keepN hK1.out) hl).mono ?_
      rintro e w2 ⟨n, vr, vf, vs, r, f, s, hn1, hn8, rfl, hG, hK2⟩
      obtain ⟨A1, a1, B1, b1, C1, c1, rfl, rfl, rfl, hR, hF, hS⟩ := hG.rd
      have hlr := hG.lr
      have hlf := hG.lf
      have hls := hG.ls
      have HR := Lib.hid hR
      have HF := Lib.hid hF
      have HS := Lib.hid hS
      have HK2 := Lib.hid (hK1.out.then_ hK2)
      have HRF := Lib.hid (hlr.trans hlf.symm)
      have b1 : 1 ≤ r.length := by omega
      have b8 : r.length ≤ 8 := by omega
      have b9 : s.length ≤ 8 := by omega
      have b10 : 1 ≤ f.length := by omega
      have b11 : f.length ≤ 8 := by omega
      clear hG hR hF hS hK2 hK1 hlr hlf hls
      go_wp2_with fail
      refine (mod_any origin 10 w2 (by omega) (by omega)).mono ?_
      rintro e w2' ⟨rfl, rfl⟩
      have ho1 : 0 ≤ origin % 10 := Int.emod_nonneg _ (by omega)
      have ho2 : origin % 10 < 10 := Int.emod_lt_of_pos _ (by omega)
      generalize origin % 10 = om at ho1 ho2 ⊢
      go_wp2_with fail
      have hB3 := Blk.new w2 3 #[Value.int .i64 origin, Value.int .i64 (om - 1)]
      have hK3 := Kept.alloc No w2 (.cells #[Value.int .i64 origin, Value.int .i64 (om - 1)] 3)
      have HB3 := Lib.hid hB3
      have HK3 := Lib.hid (HK2.out.then_ hK3)
      have HR3 := Lib.hid (HR.out.keepN hK3)
      have HF3 := Lib.hid (HF.out.keepN hK3)
      have HS3 := Lib.hid (HS.out.keepN hK3)
      have HRaw3 := Lib.hid (HRaw.out.keepN HK3.out)
      have HSp3 := Lib.hid (HSp.out.keepN HK3.out)
      generalize w2.alloc (.cells #[Value.int .i64 origin, Value.int .i64 (om - 1)] 3) = w3 at *
      clear hB3 hK3 HR HF HS HRaw HSp HL HK2
      go_loopw [48] (fun i wr => ∃ k : Nat, k ≤ 2 ∧ i = .int .i64 k ∧ Hid (Kept No w3 wr)) (fun i _ => 2 - (intOf i).toNat)
      case atStart => exact ⟨0, by omega, rfl, Lib.hid (Kept.refl _ _)⟩
      case round =>
        obtain ⟨k, hk, rfl, hKr⟩ := hrel
        by_cases hlt : k < 2
        · obtain ⟨o, ho⟩ : ∃ o : Int, wr.cell? ⟨w2.heap.size, k, none⟩ = some (.int .i64 o) := by
            have hb := HB3.out.keepN hKr.out
            rcases (show k = 0 ∨ k = 1 by omega) with rfl | rfl
            · exact ⟨_, hb.cell 0⟩
            · exact ⟨_, hb.cell 1⟩
          go_wp2_with fail
          refine (walk_any A1 B1 _ _ r f o wr No (HR3.out.keepN hKr.out) (HF3.out.keepN hKr.out) (by omega) (fun _ h => no_of h)).mono ?_
          rintro e w5 ⟨A5, c5, rfl, hV, hK5⟩
          have HK5 := Lib.hid (hKr.out.then_ hK5)
          have HV := Lib.hid hV
          clear hV hK5
          go_wp2_with fail
          refine (rwalk_any A1 B1 _ _ r f o w5 No (HR3.out.keepN HK5.out) (HF3.out.keepN HK5.out) (by omega) (fun _ h => no_of h)).mono ?_
          rintro e w6 ⟨A6, c6, rfl, hU, hK6⟩
          have HK6 := Lib.hid (HK5.out.then_ hK6)
          have HV6 := Lib.hid (HV.out.keepN hK6)
          have HU := Lib.hid hU
          clear hU hK6 HV HK5 ho
          have hVl : (Way.walk r f o).length ≤ 64 := Way.walk_len
          generalize Way.walk r f o = V at *
          go_upto_region 10 with fail
          go_cut [16, 17] (fun s16 s17 wx => Hid (TwoWays w6 (Way.walk raw (List.replicate raw.length false) o) s16 s17 wx))
          case first =>
            have hmk := run_mk_bools raw.length (by omega)
            have HRw := Lib.hid (HRaw3.out.keepN HK6.out)
            have hrep : raw.length = (List.replicate raw.length false).length := by simp
            have HREP := Lib.hid hrep
            clear hrep
            go_region_with (first | (go_at_call 13; refine (walk_any' (List.replicate raw.length false) _ _ _ _ raw o _ No ?_ ?_ (by omega) (fun _ h => no_of h) HREP.out).mono ?_; refine HRw.out.keepN ?_; (repeat (with_reducible first | exact Kept.refl _ _ | assumption | refine Kept.then_ ?_ (Kept.drew No _) | refine Kept.then_ ?_ (Kept.drewN No _ _) | refine Kept.then_ ?_ (Kept.alloc No _ _) | refine Kept.then_ ?_ ‹Kept No _ _›)); refine rd_false ?_; (repeat (first | (with_reducible exact Blk.new _ _ _) | (with_reducible refine Blk.keepN ?_ (Kept.drew No _)) | (with_reducible refine Blk.keepN ?_ (Kept.drewN No _ _)) | ((with_reducible refine Blk.new' _ _ ?_); focus (simp; done)) | (with_reducible refine Blk.keepN ?_ (Kept.alloc No _ _)) | (with_reducible refine Blk.keepN ?_ ‹Kept No _ _›))); rintro e w7 ⟨A7, c7, rfl, hX, hK7⟩) | (go_at_call 14; refine (rwalk_any' (List.replicate raw.length false) _ _ _ _ raw o _ No ?_ ?_ (by omega) (fun _ h => no_of h) HREP.out).mono ?_; refine HRw.out.keepN ?_; (repeat (with_reducible first | exact Kept.refl _ _ | assumption | refine Kept.then_ ?_ (Kept.drew No _) | refine Kept.then_ ?_ (Kept.drewN No _ _) | refine Kept.then_ ?_ (Kept.alloc No _ _) | refine Kept.then_ ?_ ‹Kept No _ _›)); refine rd_false ?_; (repeat (first | (with_reducible exact Blk.new _ _ _) | (with_reducible refine Blk.keepN ?_ (Kept.drew No _)) | (with_reducible refine Blk.keepN ?_ (Kept.drewN No _ _)) | ((with_reducible refine Blk.new' _ _ ?_); focus (simp; done)) | (with_reducible refine Blk.keepN ?_ (Kept.alloc No _ _)) | (with_reducible refine Blk.keepN ?_ ‹Kept No _ _›))); rintro e w8 ⟨A8, c8, rfl, hY, hK8⟩))
            all_goals
              go_wp2_with fail
              go_meet
              refine Lib.hid ⟨A7, c7, A8, c8, rfl, rfl, hX.keepN ?_, hY, ?_⟩
              all_goals (repeat (with_reducible first | exact Kept.refl _ _ | assumption | refine Kept.then_ ?_ (Kept.drew No _) | refine Kept.then_ ?_ (Kept.drewN No _ _) | refine Kept.then_ ?_ (Kept.alloc No _ _) | refine Kept.then_ ?_ ‹Kept No _ _›))
          case rest =>
            obtain ⟨A7, c7, A8, c8, rfl, rfl, hX, hY, hK7⟩ := hcut
            have hDl : (Way.walk raw (List.replicate raw.length false) o).length ≤ 64 := Way.walk_len
            generalize Way.walk raw (List.replicate raw.length false) o = D at *
            have HX := Lib.hid hX
            have HY := Lib.hid hY
            have HK7 := Lib.hid (HK6.out.then_ hK7)
            have HV7 := Lib.hid (HV6.out.keepN hK7)
            have HU7 := Lib.hid (HU.out.keepN hK7)
            clear hX hY hK7 HV6 HU HK6
            go_wp2_with fail
            refine (seen_any A6 C1 _ _ V s _ No HU7.out (HS3.out.keepN HK7.out) (by omega)).mono ?_
            rintro e w8 ⟨rfl, m8, rfl⟩
            go_wp2_with fail
            refine (rseen_any A6 C1 _ _ V s _ No (HU7.out.drewN _) ((HS3.out.keepN HK7.out).drewN _) (by omega)).mono ?_
            rintro e w9 ⟨rfl, m9, rfl⟩
            generalize (seen V s).1 = i1
            generalize (seen V s).2 = i2
            have d1 : decide (V = V) = true := by simp
            have d2 : decide (D = D) = true := by simp
            have d3 : (i1 != i1) = false := by simp
            have d4 : (i2 != i2) = false := by simp
            go_wp2_with fail
            refine (sameInts_any A5 A6 _ _ V V _ No (HV7.out.drewN _) (HU7.out.drewN _) (by omega) (by omega)).mono ?_
            rintro e w10 ⟨rfl, m10, rfl⟩
            go_wp2_with fail
            refine (sameInts_any A7 A8 _ _ D D _ No (HX.out.drewN _) (HY.out.drewN _) (by omega) (by omega)).mono ?_
            rintro e w11 ⟨rfl, m11, rfl⟩
            go_wp2_with fail
            go_roundw
            case rel => exact ⟨k + 1, by omega, by go_num, Lib.hid (HK7.out.then_ (Kept.drewN No _ _))⟩
            case measure => simp [intOf]; omega
        · go_wp2_with fail
          refine (seen_any R S _ _ raw spies wr No (HRaw3.out.keepN hKr.out) (HSp3.out.keepN hKr.out) (by omega)).mono ?_
          rintro e w8 ⟨rfl, m8, rfl⟩
          go_wp2_with fail
          refine (rseen_any R S _ _ raw spies _ No ((HRaw3.out.keepN hKr.out).drewN _) ((HSp3.out.keepN hKr.out).drewN _) (by omega)).mono ?_
          rintro e w9 ⟨rfl, m9, rfl⟩
          generalize (seen raw spies).1 = i1
          generalize (seen raw spies).2 = i2
          have d3 : (i1 == i1) = true := by simp
          have d4 : (i2 == i2) = true := by simp
          have hne : r.length ≠ f.length - 1 := by have := HRF.out; omega
          have HNE := Lib.hid hne
          clear hne
          go_wp2_with fail
          all_goals
            refine (walk_ne _ _ _ _ r (f.length - 1) 0 _ (by omega) HNE.out).mono ?_
            rintro e w12 ⟨rfl, rfl⟩
            go_wp2_with fail
            go_ret
            exact ⟨rfl, Lib.hid (HK3.out.then_ (hKr.out.then_ (by first | exact Kept.drewN No _ _ | exact (Kept.drewN No _ _).then_ (Kept.drewN No _ _))))⟩
    · go_enter Try.func3, Try.ntmps3
      have d2 : decide (70 < (spies.length : Int)) = true := by simp; omega
      go_wp2_with (go_at_call 10; refine (sane_any w).mono ?_; rintro e w1 ⟨rfl, hK1⟩)
      go_ret
      exact ⟨rfl, hK1⟩
  · go_enter Try.func3, Try.ntmps3
    have d2 : decide (70 < (raw.length : Int)) = true := by simp; omega
    go_wp2_with (go_at_call 10; refine (sane_any w).mono ?_; rintro e w1 ⟨rfl, hK1⟩)
    go_ret
    exact ⟨rfl, hK1⟩
end Go.Proofs.Ytpbbfpfmdckclaa
