/- The walk of RelayCounts. -/
import Derived.Test.YtpbbfpfmdckclaaRJ
namespace Go.Proofs.Ytpbbfpfmdckclaa
open Go.RowKit

theorem own_set {w : World} {base : Nat} {e : TypeId} {v : Value} {n : Nat} {xs : List Value} (h : w.ownsRow base e 1 v n xs) {j : Nat} (hj : j < n) (u : Value) :
    ∃ g cap x, v = .slice (some ⟨g, 0, none⟩) n cap ∧ w.cell? ⟨g, j, none⟩ = some x ∧ w.frozen? ⟨g, j, none⟩ = false ∧ (w.setCell ⟨g, j, none⟩ u).ownsRow base e 1 v n (xs.set j u) := by
  rcases h.2 with ⟨_, h0⟩ | ⟨g, cap, cur, rfl, hb, hg, hnc, hm, hs, ht⟩
  · omega
  · have hB : Blk w g e cur := hg
    have hjc : j < cur.size := by omega
    refine ⟨g, cap, cur[j], rfl, ?_, hB.frozen j, by simpa using h.1, .inr ⟨g, cap, cur.setIfInBounds j u, rfl, hb, hB.set_ j u, hnc, hm, by simpa using hs, ?_⟩⟩
    · rw [hB.cell]; simp [hjc]
    · rw [← ht]
      simp [List.take_set]

theorem add_off (g x : Nat) : (⟨g, 0, none⟩ : Addr).add x = ⟨g, x, none⟩ := by unfold Addr.add; split <;> simp_all
/-- what is known of a way before its first spy (or its end), if a is a spy -/
theorem before_spy {r : List Int} {f s : List Bool} {o : Int} {W : List Int} {a t : Nat} (hc : Way.Chain r f o W) (hl : r.length = s.length) (ha : s.getD a false = true) (h0 : 0 < t) (ht : t < W.length) (hn : spyAt W s t = false) :
    ∃ x : Nat, W[t] = (x : Int) ∧ x < s.length ∧ s.getD x false = false ∧ x ≠ a := by
  have hr := hc.range W[t] (List.getElem_mem ht)
  obtain ⟨x, hx⟩ := Int.eq_ofNat_of_zero_le hr.1
  have hxs : x < s.length := by omega
  have h2 := spyAt_of ht h0 hx hxs
  rw [hn] at h2
  have h3 : s.getD x false = false := by simp [hxs, ← h2]
  exact ⟨x, hx, hxs, h3, fun e => by subst e; rw [h3] at ha; cases ha⟩

set_option maxRecDepth 100000 in
set_option maxHeartbeats 8000000 in
theorem relayCounts_walk (A : Option Addr) (c : Nat) (l : List Int) (spy neighbor : Int) (w : World) (h : Rd w No 1 A l.length (l.map (Value.int .i64))) (hl : l.length ≤ 9223372036854775807) (_ : ∀ n ∈ l, (Lit.int .i64 n).wf = true) (_ : (Lit.int .i64 spy).wf = true) (_ : (Lit.int .i64 neighbor).wf = true) :
    Calls Try.prog 5 #[.slice A l.length c, .int .i64 spy, .int .i64 neighbor] w fun e w' => e = .returned (.bool true) ∧ Hid (Kept No w w') := by
  have HL := Lib.hid h
  clear h
  go_enter Try.func5, Try.ntmps5
  go_wp2_with (go_at_call 10; refine (sane_any w).mono ?_; rintro e w1 ⟨rfl, hK1⟩)
  refine (graph_any A c l w1 (HL.out.keepN hK1.out) hl).mono ?_
  rintro e w2 ⟨n, vr, vf, vs, r, f, s, hn1, hn8, rfl, hG, hK2⟩
  obtain ⟨A1, a1, B1, b1, C1, c1, rfl, rfl, rfl, hR, hF, hS⟩ := hG.rd
  have hlr := hG.lr
  have hlf := hG.lf
  have hls := hG.ls
  have HR := Lib.hid hR
  have HF := Lib.hid hF
  have HG := Lib.hid hG
  have HK2 := Lib.hid (hK1.out.then_ hK2)
  have hsz1 := hK1.out.size
  have HRF := Lib.hid (hlr.trans hlf.symm)
  have HRS := Lib.hid (hlr.trans hls.symm)
  have HN := Lib.hid hls
  have b1 : 1 ≤ r.length := by omega
  have b8 : r.length ≤ 8 := by omega
  clear hG hR hF hS hK2 hK1 hlr hlf hls
  go_wp2_with fail
  refine (mod_any spy r.length w2 (by omega) (by omega)).mono ?_
  rintro e w2' ⟨rfl, rfl⟩
  have ha1 : 0 ≤ spy % r.length := Int.emod_nonneg _ (by omega)
  have ha2 : spy % r.length < r.length := Int.emod_lt_of_pos _ (by omega)
  generalize spy % r.length = a' at ha1 ha2 ⊢
  obtain ⟨a, rfl⟩ := Int.eq_ofNat_of_zero_le ha1
  go_wp2_with fail
  refine (mod_any neighbor r.length w2 (by omega) (by omega)).mono ?_
  rintro e w2' ⟨rfl, rfl⟩
  generalize neighbor % r.length = b
  have has : a < s.length := by have := HRS.out; omega
  obtain ⟨g, cap, x, hv, hcx, hfx, hown⟩ := own_set HG.out.own3 (j := a) (by have := HN.out; omega) (.bool true)
  have hv' : C1 = some ⟨g, 0, none⟩ := by injection hv
  subst hv'
  have e1 : (0 : Int) ≤ (a : Int) := by omega
  have e2 : (a : Int) < s.length := by omega
  have hown' : (w2.setCell ⟨g, a, none⟩ (.bool true)).ownsRow (w1.heap.size + 1) 4 1 (.slice (some ⟨g, 0, none⟩) s.length c1) s.length ((s.set a true).map Value.bool) := by
    have hls := HN.out
    subst hls
    rw [List.map_set]
    exact hown
  have hne1 : ∀ k, A1 = some k → k.block ≠ g := fun k hk e => by
    subst hk
    exact HG.out.ne13 g rfl (by simp [Value.ownBlock, e])
  have hne2 : ∀ k, B1 = some k → k.block ≠ g := fun k hk e => by
    subst hk
    exact HG.out.ne23 g rfl (by simp [Value.ownBlock, e])
  have hR3 : Rd (w2.setCell ⟨g, a, none⟩ (.bool true)) No 1 A1 r.length (r.map (Value.int .i64)) := by
    have h1 : Rd w2 (fun k => k = g) 1 A1 r.length (r.map (Value.int .i64)) := ⟨HR.out.1, fun hn => by obtain ⟨ad, e, _, hc⟩ := HR.out.2 hn; exact ⟨ad, e, hne1 ad e, hc⟩⟩
    exact (h1.keepO (Kept.setCell (O := fun k => k = g) w2 (p := ⟨g, a, none⟩) (.inl rfl) _)).sub (fun _ h => no_of h)
  have hF3 : Rd (w2.setCell ⟨g, a, none⟩ (.bool true)) No 1 B1 f.length (f.map Value.bool) := by
    have h1 : Rd w2 (fun k => k = g) 1 B1 f.length (f.map Value.bool) := ⟨HF.out.1, fun hn => by obtain ⟨ad, e, _, hc⟩ := HF.out.2 hn; exact ⟨ad, e, hne2 ad e, hc⟩⟩
    exact (h1.keepO (Kept.setCell (O := fun k => k = g) w2 (p := ⟨g, a, none⟩) (.inl rfl) _)).sub (fun _ h => no_of h)
  have hS3 : Rd (w2.setCell ⟨g, a, none⟩ (.bool true)) No 1 (some ⟨g, 0, none⟩) (s.set a true).length ((s.set a true).map Value.bool) := by
    have := Rd.of_own (O := No) hown' (fun _ _ h => no_of h)
    simpa using this
  have hsa : (s.set a true).getD a false = true := by simp [has]
  have hsl : (s.set a true).length = s.length := by simp
  have hgw : w.heap.size ≤ g := by
    have h1 := (HG.out.own3.lt g rfl).1
    omega
  have HK3 := Lib.hid (HK2.out.trans (Kept.setCell (O := fun k => k = g) w2 (p := ⟨g, a, none⟩) (.inl rfl) (.bool true)) (fun k hk e => by omega))
  have HR3 := Lib.hid hR3
  have HF3 := Lib.hid hF3
  have HS3 := Lib.hid hS3
  have HSA := Lib.hid hsa
  clear hR3 hF3 hS3 hsa hown hown' hv hne1 hne2 HG HR HF HK2
  go_wp2_with fail
  generalize w2.setCell ⟨g, a, none⟩ (.bool true) = w3 at *
  have HRS1 : Hid (r.length = (s.set a true).length) := Lib.hid (by rw [hsl]; exact HRS.out)
  rw [← hsl]
  generalize s.set a true = s1 at *
  clear hcx hfx e1 e2 HRS HN hsl has
  go_loopw [12, 13, 40] (fun q p i wr => ∃ (k q' : Nat), k ≤ r.length ∧ q' ≤ k ∧ i = .int .i64 k ∧ q = .int .i64 q' ∧ p = .int .i64 q' ∧ Hid (Kept No w3 wr)) (fun _ _ i _ => r.length - (intOf i).toNat)
  case atStart => exact ⟨0, 0, Nat.zero_le _, Nat.zero_le _, rfl, rfl, rfl, Lib.hid (Kept.refl _ _)⟩
  case round =>
    obtain ⟨k, q, hk, hq, rfl, rfl, rfl, hKr⟩ := hrel
    by_cases hlt : k < r.length
    · go_wp2_with fail
      refine (walk_any A1 B1 _ _ r f k wr No (HR3.out.keepN hKr.out) (HF3.out.keepN hKr.out) (by omega) (fun _ h => no_of h)).mono ?_
      rintro e w5 ⟨A5, c5, rfl, hV, hK5⟩
      have hVl : (Way.walk r f k).length ≤ 64 := Way.walk_len
      have HCh := Lib.hid (Way.walk_chain (o := k) HRF.out (by omega) (by omega) (by omega)).1
      generalize Way.walk r f k = V at *
      have HV := Lib.hid hV
      have HK5 := Lib.hid (hKr.out.then_ hK5)
      clear hV hK5
      go_wp2_with fail
      refine (seen_any A5 _ _ _ V s1 w5 No HV.out (HS3.out.keepN HK5.out) (by omega)).mono ?_
      rintro e w6 ⟨rfl, m6, rfl⟩
      rcases seen_spec V s1 with ⟨i, hi, hsp, hno, hse⟩ | ⟨hse, hno⟩
      · rw [hse]
        have hpos := spyAt_pos hsp
        have h0i := hpos.1
        obtain ⟨y, hy⟩ := Int.eq_ofNat_of_zero_le hpos.2.1
        have hVi : V[i] = (y : Int) := by rw [← hy]; simp [hi]
        have hys : y < s1.length := by have := hpos.2.2.1; omega
        have hsy : s1[y] = true := by have := hpos.2.2.2; rw [hy] at this; simpa [hys] using this
        have hi1 : i - 1 < V.length := by omega
        obtain ⟨vd, rfl, _, hci⟩ := HV.out.elem hi
        rw [hVi] at hci
        obtain ⟨_, e, _, hci1⟩ := HV.out.elem hi1
        injection e with e
        subst e
        obtain ⟨_, e, _, hcy⟩ := (HS3.out.keepN HK5.out).elem hys
        injection e with e
        subst e
        rw [hsy, add_off] at hcy
        have hfr : V.getD (i - 1) 0 = V[i - 1] := by simp [hi1]
        rw [hfr]
        generalize V[i - 1] = fr at *
        clear hfr hVi hse hpos hy hsy
        by_cases h1 : y = a
        · by_cases h2 : fr = b
          · have hab : ((y : Int) == (a : Int)) = true := by simp; omega
            have hbb : (fr == b) = true := by simpa using h2
            have HAB := Lib.hid hab
            clear h1
            go_wp2_with fail
            go_loop [13, 18] (fun p i' => ∃ t : Nat, 1 ≤ t ∧ t ≤ i ∧ i' = .int .i64 t ∧ p = .int .i64 q) (fun _ i' => V.length - (intOf i').toNat)
            case atStart => exact ⟨1, by omega, by omega, rfl, rfl⟩
            case round =>
              obtain ⟨t, ht1, ht2, rfl, rfl⟩ := hrel
              by_cases hti : t < i
              · have htl : t < V.length := by omega
                have hb := before_spy HCh.out HRS1.out HSA.out (show 0 < t by omega) htl (hno t hti)
                obtain ⟨x, hx, hxs, hxf, hxa⟩ := hb
                obtain ⟨_, e, _, hcv⟩ := HV.out.elem htl
                injection e with e
                subst e
                rw [hx] at hcv
                obtain ⟨_, e, _, hcs⟩ := (HS3.out.keepN HK5.out).elem hxs
                injection e with e
                subst e
                rw [add_off] at hcs
                have hsx : s1[x] = false := by simpa [hxs] using hxf
                rw [hsx] at hcs
                have hxa' : ((x : Int) == (a : Int)) = false := by simp; omega
                clear hsx hxf hx hxa
                go_wp2_with fail
                go_round
                case rel => exact ⟨t + 1, by omega, by omega, by go_num, rfl⟩
                case measure => simp [intOf]; omega
              · obtain rfl : t = i := by omega
                have e1 : IntKind.i64.wrap ((t : Int) - 1) = (t : Int) - 1 := IntWalk.i64_in _ (by omega)
                have e2 : (0 : Int) ≤ (t : Int) - 1 := by omega
                have e3 : ((t : Int) - 1).toNat = t - 1 := by omega
                have e4 : (t : Int) - 1 < V.length := by omega
                go_wp2_with fail
                go_roundw
                case rel => exact ⟨k + 1, q + 1, by omega, by omega, by go_num, by go_num, by go_num, Lib.hid (HK5.out.then_ (Kept.drewN No _ _))⟩
                case measure => simp [intOf]; omega
          · have hab : ((y : Int) == (a : Int)) = true := by simp; omega
            have hbb : (fr == b) = false := by simpa using h2
            clear h1
            go_wp2_with fail
            go_loop [13, 18] (fun p i' => ∃ t : Nat, 1 ≤ t ∧ t ≤ i ∧ i' = .int .i64 t ∧ p = .int .i64 q) (fun _ i' => V.length - (intOf i').toNat)
            case atStart => exact ⟨1, by omega, by omega, rfl, rfl⟩
            case round =>
              obtain ⟨t, ht1, ht2, rfl, rfl⟩ := hrel
              by_cases hti : t < i
              · have htl : t < V.length := by omega
                have hb := before_spy HCh.out HRS1.out HSA.out (show 0 < t by omega) htl (hno t hti)
                obtain ⟨x, hx, hxs, hxf, hxa⟩ := hb
                obtain ⟨_, e, _, hcv⟩ := HV.out.elem htl
                injection e with e
                subst e
                rw [hx] at hcv
                obtain ⟨_, e, _, hcs⟩ := (HS3.out.keepN HK5.out).elem hxs
                injection e with e
                subst e
                rw [add_off] at hcs
                have hsx : s1[x] = false := by simpa [hxs] using hxf
                rw [hsx] at hcs
                have hxa' : ((x : Int) == (a : Int)) = false := by simp; omega
                clear hsx hxf hx hxa
                go_wp2_with fail
                go_round
                case rel => exact ⟨t + 1, by omega, by omega, by go_num, rfl⟩
                case measure => simp [intOf]; omega
              · obtain rfl : t = i := by omega
                have e1 : IntKind.i64.wrap ((t : Int) - 1) = (t : Int) - 1 := IntWalk.i64_in _ (by omega)
                have e2 : (0 : Int) ≤ (t : Int) - 1 := by omega
                have e3 : ((t : Int) - 1).toNat = t - 1 := by omega
                have e4 : (t : Int) - 1 < V.length := by omega
                go_wp2_with fail
                go_roundw
                case rel => exact ⟨k + 1, q, by omega, by omega, by go_num, rfl, rfl, Lib.hid (HK5.out.then_ (Kept.drewN No _ _))⟩
                case measure => simp [intOf]; omega
        · have hab : ((y : Int) == (a : Int)) = false := by simp; omega
          clear h1
          go_wp2_with fail
          go_loop [13, 18] (fun p i' => ∃ t : Nat, 1 ≤ t ∧ t ≤ i ∧ i' = .int .i64 t ∧ p = .int .i64 q) (fun _ i' => V.length - (intOf i').toNat)
          case atStart => exact ⟨1, by omega, by omega, rfl, rfl⟩
          case round =>
            obtain ⟨t, ht1, ht2, rfl, rfl⟩ := hrel
            by_cases hti : t < i
            · have htl : t < V.length := by omega
              have hb := before_spy HCh.out HRS1.out HSA.out (show 0 < t by omega) htl (hno t hti)
              obtain ⟨x, hx, hxs, hxf, hxa⟩ := hb
              obtain ⟨_, e, _, hcv⟩ := HV.out.elem htl
              injection e with e
              subst e
              rw [hx] at hcv
              obtain ⟨_, e, _, hcs⟩ := (HS3.out.keepN HK5.out).elem hxs
              injection e with e
              subst e
              rw [add_off] at hcs
              have hsx : s1[x] = false := by simpa [hxs] using hxf
              rw [hsx] at hcs
              have hxa' : ((x : Int) == (a : Int)) = false := by simp; omega
              clear hsx hxf hx hxa
              go_wp2_with fail
              go_round
              case rel => exact ⟨t + 1, by omega, by omega, by go_num, rfl⟩
              case measure => simp [intOf]; omega
            · obtain rfl : t = i := by omega
              have e1 : IntKind.i64.wrap ((t : Int) - 1) = (t : Int) - 1 := IntWalk.i64_in _ (by omega)
              have e2 : (0 : Int) ≤ (t : Int) - 1 := by omega
              have e3 : ((t : Int) - 1).toNat = t - 1 := by omega
              have e4 : (t : Int) - 1 < V.length := by omega
              go_wp2_with fail
              go_roundw
              case rel => exact ⟨k + 1, q, by omega, by omega, by go_num, rfl, rfl, Lib.hid (HK5.out.then_ (Kept.drewN No _ _))⟩
              case measure => simp [intOf]; omega
      · rw [hse]
        have hpos := HCh.out.pos
        obtain ⟨vd, rfl, _, _⟩ := HV.out.elem hpos
        clear hse
        go_wp2_with fail
        go_loop [13, 18] (fun p i => ∃ t : Nat, 1 ≤ t ∧ t ≤ V.length ∧ i = .int .i64 t ∧ p = .int .i64 q) (fun _ i => V.length - (intOf i).toNat)
        case atStart => exact ⟨1, by omega, by omega, rfl, rfl⟩
        case round =>
          obtain ⟨t, ht1, ht2, rfl, rfl⟩ := hrel
          by_cases htl : t < V.length
          · have hb := before_spy HCh.out HRS1.out HSA.out (show 0 < t by omega) htl (hno t htl)
            obtain ⟨x, hx, hxs, hxf, hxa⟩ := hb
            obtain ⟨_, e, _, hcv⟩ := HV.out.elem htl
            injection e with e
            subst e
            rw [hx] at hcv
            obtain ⟨_, e, _, hcs⟩ := (HS3.out.keepN HK5.out).elem hxs
            injection e with e
            subst e
            rw [add_off] at hcs
            have hsx : s1[x] = false := by simpa [hxs] using hxf
            rw [hsx] at hcs
            have hxa' : ((x : Int) == (a : Int)) = false := by simp; omega
            clear hsx hxf hx hxa
            go_wp2_with fail
            go_round
            case rel => exact ⟨t + 1, by omega, by omega, by go_num, rfl⟩
            case measure => simp [intOf]; omega
          · go_wp2_with fail
            go_roundw
            case rel => exact ⟨k + 1, q, by omega, by omega, by go_num, rfl, rfl, Lib.hid (HK5.out.then_ (Kept.drewN No _ _))⟩
            case measure => simp [intOf]; omega
    · have hqq : ((q : Int) == (q : Int)) = true := by simp
      go_wp2_with fail
      go_ret
      exact ⟨rfl, Lib.hid (HK3.out.then_ hKr.out)⟩
end Go.Proofs.Ytpbbfpfmdckclaa
