/- The walk of RelayHides. -/
import Derived.Test.YtpbbfpfmdckclaaRI
namespace Go.Proofs.Ytpbbfpfmdckclaa
open Go.RowKit

theorem Graph.rd {w : World} {base n : Nat} {vr vf vs : Value} {r : List Int} {f s : List Bool} (h : Graph w base n n vr vf vs r f s) :
    ∃ A a B b C c, vr = .slice A r.length a ∧ vf = .slice B f.length b ∧ vs = .slice C s.length c ∧ Rd w No 1 A r.length (r.map (Value.int .i64)) ∧ Rd w No 1 B f.length (f.map Value.bool) ∧ Rd w No 1 C s.length (s.map Value.bool) := by
  obtain ⟨A, a, rfl⟩ := own_len h.own1
  obtain ⟨B, b, rfl⟩ := own_len h.own2
  obtain ⟨C, c, rfl⟩ := own_len h.own3
  have h1 := h.own1
  have h2 := h.own2
  have h3 := h.own3
  rw [← h.lr] at h1
  rw [← h.lf] at h2
  rw [← h.ls] at h3
  exact ⟨A, a, B, b, C, c, by rw [h.lr], by rw [h.lf], by rw [h.ls], Rd.of_own h1 (fun _ _ h => no_of h), Rd.of_own h2 (fun _ _ h => no_of h), Rd.of_own h3 (fun _ _ h => no_of h)⟩

set_option maxHeartbeats 4000000 in
theorem relayHides_walk (A : Option Addr) (c : Nat) (l : List Int) (origin : Int) (w : World) (h : Rd w No 1 A l.length (l.map (Value.int .i64))) (hl : l.length ≤ 9223372036854775807) (_ : ∀ n ∈ l, (Lit.int .i64 n).wf = true) (_ : (Lit.int .i64 origin).wf = true) :
    Calls Try.prog 4 #[.slice A l.length c, .int .i64 origin] w fun e w' => e = .returned (.bool true) ∧ Hid (Kept No w w') := by
  have HL := Lib.hid h
  clear h
  go_enter Try.func4, Try.ntmps4
  go_wp2_with (go_at_call 10; refine (sane_any w).mono ?_; rintro e w1 ⟨rfl, hK1⟩)
  refine (graph_any A c l w1 (HL.out.keepN hK1.out) hl).mono ?_
  rintro e w2 ⟨n, vr, vf, vs, r, f, s, hn1, hn8, rfl, hG, hK2⟩
  obtain ⟨A1, a1, B1, b1, C1, c1, rfl, rfl, rfl, hR, hF, hS⟩ := hG.rd
  have hlr := hG.lr
  have hlf := hG.lf
  have hls := hG.ls
  have HR := Lib.hid hR
  have HF := Lib.hid hF
  have HS := Lib.hid hS
  have HK2 := Lib.hid (hK1.out.then_ hK2)
  have HRF := Lib.hid (hlr.trans hlf.symm)
  have HRS := Lib.hid (hlr.trans hls.symm)
  have b1 : 1 ≤ r.length := by omega
  have b8 : r.length ≤ 8 := by omega
  clear hG hR hF hS hK2 hK1 hlr hlf hls
  go_wp2_with fail
  refine (mod_any origin r.length w2 (by omega) (by omega)).mono ?_
  rintro e w2' ⟨rfl, rfl⟩
  have ho1 : 0 ≤ origin % r.length := Int.emod_nonneg _ (by omega)
  have ho2 : origin % r.length < r.length := Int.emod_lt_of_pos _ (by omega)
  generalize origin % r.length = o at ho1 ho2 ⊢
  go_wp2_with fail
  refine (walk_any A1 B1 _ _ r f o w2 No HR.out HF.out (by omega) (fun _ h => no_of h)).mono ?_
  rintro e w3 ⟨A2, c2, rfl, hW, hK3⟩
  have HCh := Lib.hid (Way.walk_chain HRF.out (by omega) ho1 ho2).1
  have HH := Lib.hid (fun i k => hides (s := s) (i := i) (k := k) HRF.out (by omega) ho1 ho2)
  have hWl : (Way.walk r f o).length ≤ 64 := Way.walk_len
  have HK3 := Lib.hid (HK2.out.then_ hK3)
  have HR3 := Lib.hid (HR.out.keepN hK3)
  have HF3 := Lib.hid (HF.out.keepN hK3)
  have HS3 := Lib.hid (HS.out.keepN hK3)
  have HW3 := Lib.hid hW
  clear hK3 hW HR HF HS HK2
  generalize Way.walk r f o = W at *
  go_wp2_with fail
  refine (seen_any A2 C1 _ _ W s w3 No HW3.out HS3.out (by omega)).mono ?_
  rintro e w4 ⟨rfl, m4, rfl⟩
  have hW0 : 0 < W.length := HCh.out.pos
  have hhd : W[0] = o := by have := HCh.out.head; simpa [hW0] using this
  obtain ⟨ad, rfl, _, hc0⟩ := HW3.out.elem hW0
  rw [hhd] at hc0
  have hc0' : w3.cell? ad = some (.int .i64 o) := hc0
  clear hhd
  rcases seen_spec W s with ⟨i, hi, hsp, hno, hse⟩ | ⟨hse, _⟩
  · rw [hse]
    have HH2 := Lib.hid (fun k (hk : k < i) => HH.out i k hi hsp hno hk)
    have hpos := spyAt_pos hsp
    have h0i := hpos.1
    obtain ⟨j, hj⟩ := Int.eq_ofNat_of_zero_le hpos.2.1
    have hWi : W[i] = (j : Int) := by rw [← hj]; simp [hi]
    have hjs : j < s.length := by have := hpos.2.2.1; omega
    have hsj : s[j] = true := by have := hpos.2.2.2; rw [hj] at this; simpa [hjs] using this
    have hi1 : i - 1 < W.length := by omega
    obtain ⟨_, e, _, hci⟩ := HW3.out.elem hi
    injection e with e
    subst e
    rw [hWi] at hci
    obtain ⟨_, e, _, hci1⟩ := HW3.out.elem hi1
    injection e with e
    subst e
    obtain ⟨cd, rfl, _, hcs⟩ := HS3.out.elem hjs
    rw [hsj] at hcs
    have hfr : W.getD (i - 1) 0 = W[i - 1] := by simp [hi1]
    rw [hfr]
    have HFR := Lib.hid hfr
    have HWI := Lib.hid hWi
    generalize hfrom : W[i - 1] = fr at *
    have HFROM := Lib.hid hfrom
    clear hfr hWi hfrom hse hpos hj hsj hsp hno
    have e1 : IntKind.i64.wrap ((i : Int) - 1) = (i : Int) - 1 := IntWalk.i64_in _ (by omega)
    have e2 : (0 : Int) ≤ (i : Int) - 1 := by omega
    have e3 : ((i : Int) - 1).toNat = i - 1 := by omega
    have e4 : (i : Int) - 1 < W.length := by omega
    have e5 : (fr != fr) = false := by simp
    have d1 : decide ((i : Int) < 0) = false := by simp
    have d2 : decide (W.length ≤ i) = false := by simp; omega
    have d3 : decide ((i : Int) < 1) = false := by simp; omega
    go_wp2_with fail
    clear d1 d2 d3
    go_loopw [12] (fun k wr => ∃ k' : Nat, k' ≤ i ∧ k = .int .i64 k' ∧ Hid (Kept No w3 wr)) (fun k _ => i - (intOf k).toNat)
    case atStart => exact ⟨0, Nat.zero_le _, rfl, Lib.hid (Kept.drewN No _ _)⟩
    case round =>
      obtain ⟨k, hk, rfl, hKr⟩ := hrel
      clear e1 e2 e3 e4 e5 hc0 hc0'
      by_cases hlt : k < i
      · have hkW : k < W.length := by omega
        obtain ⟨_, e, _, hck⟩ := (HW3.out.keepN hKr.out).elem hkW
        injection e with e
        subst e
        have hh := HH2.out k hlt
        have hWk : W.getD k 0 = W[k] := by simp [hkW]
        rw [hWk, HFR.out] at hh
        generalize W[k] = x at *
        go_wp2_with fail
        refine (walk_any A1 B1 _ _ r f x wr No (HR3.out.keepN hKr.out) (HF3.out.keepN hKr.out) (by omega) (fun _ h => no_of h)).mono ?_
        rintro e w5 ⟨A5, c5, rfl, hV, hK5⟩
        have hVl : (Way.walk r f x).length ≤ 64 := Way.walk_len
        generalize Way.walk r f x = V at *
        obtain ⟨hh1, hh2, hh3⟩ := hh
        have HV := Lib.hid hV
        have HK5 := Lib.hid (hKr.out.then_ hK5)
        have HH1 := Lib.hid hh1
        have hVi : V[i - k] = W[i] := by simpa [hh2, hi] using hh3
        rw [HWI.out] at hVi
        have HVI := Lib.hid hVi
        clear hV hK5 hVi hh1 hh3 hck hWk
        go_wp2_with fail
        refine (seen_any A5 (some cd) _ _ V s w5 No HV.out (HS3.out.keepN HK5.out) (by omega)).mono ?_
        rintro e w6 ⟨rfl, m6, rfl⟩
        rw [HH1.out]
        obtain ⟨vd, rfl, _, hcv⟩ := HV.out.elem hh2
        obtain ⟨_, e, _, hcw⟩ := (HW3.out.keepN HK5.out).elem hi
        injection e with e
        subst e
        rw [HVI.out] at hcv
        rw [HWI.out] at hcw
        have e1 : IntKind.i64.wrap ((i : Int) - k) = ((i - k : Nat) : Int) := by rw [IntWalk.i64_in _ (by omega)]; omega
        have e2 : (0 : Int) ≤ ((i - k : Nat) : Int) := by omega
        have e3 : (((i - k : Nat) : Int)).toNat = i - k := by omega
        have e4 : ((i - k : Nat) : Int) < V.length := by omega
        have e5 : (((i - k : Nat) : Int) != ((i - k : Nat) : Int)) = false := by simp
        have e6 : (fr != fr) = false := by simp
        have e7 : ((j : Int) != (j : Int)) = false := by simp
        have e8 : (0 : Int) ≤ (i : Int) := by omega
        have e9 : (i : Int) < W.length := by omega
        generalize ((i - k : Nat) : Int) = ik at *
        go_wp2_with fail
        go_quiet (fail)
        clear e1 e2 e3 e4 e5 e6 e7
        go_wp2_with fail
        go_roundw
        case rel => exact ⟨k + 1, by omega, by go_num, Lib.hid (HK5.out.then_ (Kept.drewN No _ _))⟩
        case measure => simp [intOf]; omega
      · go_wp2_with fail
        go_ret
        exact ⟨rfl, Lib.hid (HK3.out.then_ hKr.out)⟩
  · rw [hse]
    clear hse
    go_wp2_with fail
    go_ret
    exact ⟨rfl, Lib.hid (HK3.out.then_ (Kept.drewN No _ _))⟩
end Go.Proofs.Ytpbbfpfmdckclaa
