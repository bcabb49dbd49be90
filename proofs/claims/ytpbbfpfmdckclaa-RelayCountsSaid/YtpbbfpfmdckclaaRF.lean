/- Contract of the reference's Walk. -/
import Derived.Test.YtpbbfpfmdckclaaRE
namespace Go.Proofs.Ytpbbfpfmdckclaa
open Go.RowKit

set_option maxHeartbeats 1000000 in
theorem rwalk_no (A B : Option Addr) (c d : Nat) (r : List Int) (f : List Bool) (o : Int) (w : World) (lr : r.length ≤ 9223372036854775807)
    (h : ¬ (r.length = f.length ∧ r.length ≤ 64 ∧ 0 ≤ o ∧ o < r.length)) :
    Calls Try.prog 14 #[.slice A r.length c, .slice B f.length d, .int .i64 o] w fun e w' => e = .returned (.slice none 0 0) ∧ w = w' := by
  by_cases h1 : r.length = f.length
  · have h1' : ((r.length : Int) != (f.length : Int)) = false := by simp [h1]
    by_cases h2 : r.length ≤ 64
    · by_cases h3 : 0 ≤ o
      · have h4 : ¬ o < r.length := fun h4 => h ⟨h1, h2, h3, h4⟩
        clear h1 h
        go_enter Try.func14, Try.ntmps14
        go_wp2
        go_ret
        exact ⟨rfl, rfl⟩
      · clear h1 h
        go_enter Try.func14, Try.ntmps14
        go_wp2
        go_ret
        exact ⟨rfl, rfl⟩
    · clear h1 h
      go_enter Try.func14, Try.ntmps14
      go_wp2
      go_ret
      exact ⟨rfl, rfl⟩
  · have h1' : ((r.length : Int) != (f.length : Int)) = true := by simp; omega
    clear h1 h
    go_enter Try.func14, Try.ntmps14
    go_wp2
    go_ret
    exact ⟨rfl, rfl⟩

structure RWalkInv (r : List Int) (f : List Bool) (j0 : Nat) (w wr : World) (out : List Int) (j : Nat) (fu : Nat) (v : Value) : Prop where
  own : wr.ownsRow w.heap.size 3 1 v (out.length + 1) ((out ++ [(j : Int)]).map (Value.int .i64))
  kept : Kept No w wr
  way : Way.walk r f j0 = Way.go r f fu (out ++ [(j : Int)])
  fuel : fu + out.length = r.length
  nodup : (out ++ [(j : Int)]).Nodup
  range : ∀ y ∈ out ++ [(j : Int)], 0 ≤ y ∧ y < r.length

section
variable {r : List Int} {f : List Bool} {j0 : Nat} {w wr : World} {out : List Int} {j fu : Nat} {v : Value}
theorem RWalkInv.room (h : RWalkInv r f j0 w wr out j fu v) : out.length < r.length := by
  have := Way.nodup_ints (n := r.length) h.nodup h.range
  simp at this
  omega
theorem RWalkInv.lt (h : RWalkInv r f j0 w wr out j fu v) : j < r.length := by
  have := h.range j (by simp)
  omega
theorem RWalkInv.stop (h : RWalkInv r f j0 w wr out j fu v) (h0 : 0 < out.length) (hd : f.getD j false = true) : Way.walk r f j0 = out ++ [(j : Int)] := by
  rw [h.way, Way.go_stop (by simpa using hd) h0]
theorem RWalkInv.next (h : RWalkInv r f j0 w wr out j fu v) (hd : f.getD j false = false ∨ out = []) : Way.walk r f j0 = Way.next r f (fu - 1) (out ++ [(j : Int)]) (r.getD j 0) := by
  have := h.room
  have := h.fuel
  have e : fu = (fu - 1) + 1 := by omega
  have h' := Way.go_on (routes := r) (diffuse := f) (f := fu - 1) (out := out) (x := (j : Int)) (by simpa using hd)
  rw [h.way]
  rw [← e] at h'
  exact h'
theorem RWalkInv.halt (h : RWalkInv r f j0 w wr out j fu v) (hd : f.getD j false = false ∨ out = []) (hx : ¬ (0 ≤ r.getD j 0 ∧ r.getD j 0 < r.length ∧ r.getD j 0 ∉ out ++ [(j : Int)])) : Way.walk r f j0 = out ++ [(j : Int)] := by
  rw [h.next hd, Way.next, if_neg hx]
theorem RWalkInv.step {w1 : World} {v1 : Value} {j' : Nat} (h : RWalkInv r f j0 w wr out j fu v) (hd : f.getD j false = false ∨ out = []) (hj : r.getD j 0 = (j' : Int)) (hl : j' < r.length) (hn : (j' : Int) ∉ out ++ [(j : Int)])
    (own : w1.ownsRow w.heap.size 3 1 v1 (out.length + 1 + 1) ((out ++ [(j : Int)]).map (Value.int .i64) ++ [Value.int .i64 j'])) (kept : Kept No w w1) :
    RWalkInv r f j0 w w1 (out ++ [(j : Int)]) j' (fu - 1) v1 where
  own := by simpa using own
  kept := kept
  way := by rw [h.next hd, Way.next, hj, if_pos ⟨by omega, by omega, hn⟩]
  fuel := by have hr := h.room; have hf := h.fuel; simp; omega
  nodup := by
    rw [List.nodup_append]
    exact ⟨h.nodup, by simp, by intro a ha b hb; simp at hb; subst hb; intro e; subst e; exact hn ha⟩
  range := by
    intro y hy
    rcases List.mem_append.1 hy with hy | hy
    · exact h.range y hy
    · simp at hy; subst hy; omega
end
theorem RWalkInv.start {r : List Int} {f : List Bool} {j0 : Nat} {w wr : World} {v : Value} (h1 : r.length = f.length) (h2 : r.length ≤ 64) (h3 : j0 < r.length) (own : wr.ownsRow w.heap.size 3 1 v 1 [Value.int .i64 j0]) (kept : Kept No w wr) : RWalkInv r f j0 w wr [] j0 r.length v where
  own := own
  kept := kept
  way := by
    unfold Way.walk
    rw [if_pos ⟨h1, h2, by omega, by omega⟩]
    rfl
  fuel := by simp
  nodup := by simp
  range := by intro y hy; simp at hy; subst hy; omega

set_option maxHeartbeats 2000000 in
theorem rwalk_yes (A B : Option Addr) (c d : Nat) (r : List Int) (f : List Bool) (j0 : Nat) (w : World) (O : Nat → Prop) (hr : Rd w O 1 A r.length (r.map (Value.int .i64))) (hf : Rd w O 1 B f.length (f.map Value.bool))
    (h1 : r.length = f.length) (h2 : r.length ≤ 64) (h3 : j0 < r.length) (hO : ∀ k, O k → k < w.heap.size) :
    Calls Try.prog 14 #[.slice A r.length c, .slice B f.length d, .int .i64 j0] w (RetL (Value.int .i64) O w (Way.walk r f j0)) := by
  have h1' : ((r.length : Int) != (f.length : Int)) = false := by simp [h1]
  have HF := Lib.hid hf; clear hf
  have HR := Lib.hid hr; clear hr
  have HO := Lib.hid hO; clear hO
  have H1 := Lib.hid h1; clear h1
  go_enter Try.func14, Try.ntmps14
  go_wp2
  have hI : RWalkInv r f j0 w (w.alloc (.cells #[.int .i64 j0] 3)) [] j0 r.length (.slice (some ⟨w.heap.size, 0, none⟩) 1 1) := by
    refine RWalkInv.start H1.out h2 h3 (own_of_blk (base := w.heap.size) (n := 1) (size := 1) (Blk.new w 3 #[.int .i64 j0]) (Nat.le_refl _) rfl (by decide)) (Kept.alloc _ _ _)
  generalize w.alloc (.cells #[.int .i64 j0] 3) = w2 at hI ⊢
  have HI := Lib.hid hI
  clear hI
  go_loopw [7] (fun p wr => ∃ (out : List Int) (j : Nat) (fu : Nat) (A' : Option Addr) (cp : Nat), p = .slice A' (out.length + 1) cp ∧ Hid (RWalkInv r f j0 w wr out j fu (.slice A' (out.length + 1) cp))) (fun p _ => 65 - lenOf p)
  case atStart => exact ⟨[], j0, r.length, _, _, rfl, HI⟩
  case round =>
    clear HI
    obtain ⟨out, j, fu, A', cp, rfl, HI⟩ := hrel
    have hroom := HI.out.room
    have hjl := HI.out.lt
    have hjf : j < f.length := by have := H1.out; omega
    have hfin : Way.walk r f j0 = out ++ [(j : Int)] → RetL (Value.int .i64) O w (Way.walk r f j0) (.returned (.slice A' (out.length + 1) cp)) wr := by
      intro e
      rw [e]
      refine ⟨A', cp, by simp, ?_, HI.out.kept⟩
      have := Rd.of_own (O := O) HI.out.own (fun g hg h => by
        subst hg
        have := (HI.out.own.lt g rfl).1
        have := HO.out g h
        omega)
      simpa using this
    have HFIN := Lib.hid hfin
    clear hfin
    have hown : Rd wr No 1 A' (out ++ [(j : Int)]).length ((out ++ [(j : Int)]).map (Value.int .i64)) := by
      have := Rd.of_own (O := No) HI.out.own (fun g hg h => no_of h)
      simpa using this
    have HW := Lib.hid hown
    clear hown
    obtain ⟨od, rfl, _, hco⟩ := HW.out.elem (k := out.length) (by simp)
    have hco : wr.cell? (od.add out.length) = some (.int .i64 j) := by simpa using hco
    obtain ⟨ad, rfl, _, hc1⟩ := (HR.out.keepN HI.out.kept).elem hjl
    obtain ⟨bd, rfl, _, hc2⟩ := (HF.out.keepN HI.out.kept).elem hjf
    by_cases hd : 0 < out.length ∧ f[j] = true
    · obtain ⟨d1, d2⟩ := hd
      rw [d2] at hc2
      have hw := Lib.hid (HI.out.stop d1 (by simp [hjf, d2]))
      clear d2
      go_wp2
      go_ret
      exact HFIN.out hw.out
    · have hd' : f.getD j false = false ∨ out = [] := by
        by_cases h0 : 0 < out.length
        · left
          have : f[j] = false := by rw [Bool.eq_false_iff]; exact fun h => hd ⟨h0, h⟩
          simp [hjf, this]
        · right
          exact List.eq_nil_of_length_eq_zero (by omega)
      have HD := Lib.hid hd'
      clear hd'
      by_cases hv : 0 ≤ r[j] ∧ r[j] < r.length
      · obtain ⟨v1, v2⟩ := hv
        obtain ⟨j', hj'⟩ := Int.eq_ofNat_of_zero_le v1
        rw [hj'] at hc1
        have hjl' : j' < r.length := by omega
        have HJ := Lib.hid hj'
        clear hj' v1 v2
        by_cases h0 : 0 < out.length
        · have d2 : f[j] = false := by rw [Bool.eq_false_iff]; exact fun h => hd ⟨h0, h⟩
          rw [d2] at hc2
          clear d2 hd
          go_wp2
          go_loop [10] (fun i => ∃ k : Nat, k ≤ out.length + 1 ∧ i = .int .i64 k ∧ Hid (∀ y ∈ (out ++ [(j : Int)]).take k, y ≠ (j' : Int))) (fun i => out.length + 1 - (intOf i).toNat)
          case atStart => exact ⟨0, Nat.zero_le _, rfl, Lib.hid (by simp)⟩
          case round =>
            obtain ⟨k, hk, rfl, hno⟩ := hrel
            by_cases hlt : k < out.length + 1
            · have hlk : k < (out ++ [(j : Int)]).length := by simp; omega
              obtain ⟨od', e, _, hck⟩ := HW.out.elem hlk
              obtain rfl : od = od' := by injection e
              by_cases he : (out ++ [(j : Int)])[k] = (j' : Int)
              · rw [he] at hck
                have hw := Lib.hid (HI.out.halt HD.out (fun h => h.2.2 (by
                  have : r.getD j 0 = (j' : Int) := by simp [hjl, HJ.out]
                  rw [this, ← he]
                  exact List.getElem_mem hlk)))
                clear he
                go_wp2
                go_ret
                exact HFIN.out hw.out
              · have hno' := Lib.hid (fun y hy => by
                  rw [List.take_succ_eq_append_getElem hlk] at hy
                  rcases List.mem_append.1 hy with hy | hy
                  · exact hno.out y hy
                  · simp only [List.mem_singleton] at hy
                    subst hy
                    exact he : ∀ y ∈ (out ++ [(j : Int)]).take (k + 1), y ≠ (j' : Int))
                have he' : ((out ++ [(j : Int)])[k] == (j' : Int)) = false := by simpa using he
                generalize (out ++ [(j : Int)])[k] = xk at hck he'
                clear he hlk
                go_wp2
                go_round
                case rel => exact ⟨k + 1, by omega, by go_num, hno'⟩
                case measure => simp [intOf]; omega
            · have hnot : (j' : Int) ∉ out ++ [(j : Int)] := by
                intro hm
                have := hno.out (j' : Int) (by rw [List.take_of_length_le (by simp; omega)]; exact hm)
                exact this rfl
              have HNOT := Lib.hid hnot
              have HN2 := Lib.hid (Blk.new wr 3 #[Value.int .i64 j']).news
              have HO2 := Lib.hid (own_keep HI.out.own (Kept.alloc No wr (.cells #[.int .i64 j'] 3)) (fun _ _ h => no_of h))
              have hge := Lib.hid (fun k hk => (HI.out.own.lt k hk).1 : ∀ k, (Value.slice (some od) (out.length + 1) cp).ownBlock = some k → w.heap.size ≤ k)
              have hsz := HI.out.kept.size
              clear hnot
              go_wp2_with (at_builtin; refine wpList_app _ rfl (.tmp 75) (.tmp 77) 22 rfl w.heap.size 3 (.int .i64 0) 1 8 Try.underlying22 Try.infoInt rfl (by decide) _ (out.length + 1) ((out ++ [(j : Int)]).map (Value.int .i64)) rfl HO2.out _ 1 1 [.int .i64 j'] rfl rfl HN2.out (by simp [Value.oneCell']) (by decide) (by omega) (by omega) (by simp; omega) ?_; intro g cap w3 hw1 hw2 hw3 hw4)
              have hk3 : Kept No w w3 := (HI.out.kept.then_ (Kept.alloc No wr _)).trans hw2 (fun k hk e => absurd (hge.out k e) (by omega))
              have HS := Lib.hid (HI.out.step HD.out (by simp [hjl, HJ.out]) hjl' HNOT.out hw1 hk3)
              clear hw1 hw2 hw3
              go_roundw
              case rel => exact ⟨out ++ [(j : Int)], j', fu - 1, some ⟨g, 0, none⟩, cap, by simp, by simpa using HS⟩
              case measure => simp [lenOf]; omega
        · clear hd
          go_wp2
          go_loop [10] (fun i => ∃ k : Nat, k ≤ out.length + 1 ∧ i = .int .i64 k ∧ Hid (∀ y ∈ (out ++ [(j : Int)]).take k, y ≠ (j' : Int))) (fun i => out.length + 1 - (intOf i).toNat)
          case atStart => exact ⟨0, Nat.zero_le _, rfl, Lib.hid (by simp)⟩
          case round =>
            obtain ⟨k, hk, rfl, hno⟩ := hrel
            by_cases hlt : k < out.length + 1
            · have hlk : k < (out ++ [(j : Int)]).length := by simp; omega
              obtain ⟨od', e, _, hck⟩ := HW.out.elem hlk
              obtain rfl : od = od' := by injection e
              by_cases he : (out ++ [(j : Int)])[k] = (j' : Int)
              · rw [he] at hck
                have hw := Lib.hid (HI.out.halt HD.out (fun h => h.2.2 (by
                  have : r.getD j 0 = (j' : Int) := by simp [hjl, HJ.out]
                  rw [this, ← he]
                  exact List.getElem_mem hlk)))
                clear he
                go_wp2
                go_ret
                exact HFIN.out hw.out
              · have hno' := Lib.hid (fun y hy => by
                  rw [List.take_succ_eq_append_getElem hlk] at hy
                  rcases List.mem_append.1 hy with hy | hy
                  · exact hno.out y hy
                  · simp only [List.mem_singleton] at hy
                    subst hy
                    exact he : ∀ y ∈ (out ++ [(j : Int)]).take (k + 1), y ≠ (j' : Int))
                have he' : ((out ++ [(j : Int)])[k] == (j' : Int)) = false := by simpa using he
                generalize (out ++ [(j : Int)])[k] = xk at hck he'
                clear he hlk
                go_wp2
                go_round
                case rel => exact ⟨k + 1, by omega, by go_num, hno'⟩
                case measure => simp [intOf]; omega
            · have hnot : (j' : Int) ∉ out ++ [(j : Int)] := by
                intro hm
                have := hno.out (j' : Int) (by rw [List.take_of_length_le (by simp; omega)]; exact hm)
                exact this rfl
              have HNOT := Lib.hid hnot
              have HN2 := Lib.hid (Blk.new wr 3 #[Value.int .i64 j']).news
              have HO2 := Lib.hid (own_keep HI.out.own (Kept.alloc No wr (.cells #[.int .i64 j'] 3)) (fun _ _ h => no_of h))
              have hge := Lib.hid (fun k hk => (HI.out.own.lt k hk).1 : ∀ k, (Value.slice (some od) (out.length + 1) cp).ownBlock = some k → w.heap.size ≤ k)
              have hsz := HI.out.kept.size
              clear hnot
              go_wp2_with (at_builtin; refine wpList_app _ rfl (.tmp 75) (.tmp 77) 22 rfl w.heap.size 3 (.int .i64 0) 1 8 Try.underlying22 Try.infoInt rfl (by decide) _ (out.length + 1) ((out ++ [(j : Int)]).map (Value.int .i64)) rfl HO2.out _ 1 1 [.int .i64 j'] rfl rfl HN2.out (by simp [Value.oneCell']) (by decide) (by omega) (by omega) (by simp; omega) ?_; intro g cap w3 hw1 hw2 hw3 hw4)
              have hk3 : Kept No w w3 := (HI.out.kept.then_ (Kept.alloc No wr _)).trans hw2 (fun k hk e => absurd (hge.out k e) (by omega))
              have HS := Lib.hid (HI.out.step HD.out (by simp [hjl, HJ.out]) hjl' HNOT.out hw1 hk3)
              clear hw1 hw2 hw3
              go_roundw
              case rel => exact ⟨out ++ [(j : Int)], j', fu - 1, some ⟨g, 0, none⟩, cap, by simp, by simpa using HS⟩
              case measure => simp [lenOf]; omega
      · have hw := Lib.hid (HI.out.halt HD.out (fun h => hv (by have e : r.getD j 0 = r[j] := (by simp [hjl]); rw [e] at h; exact ⟨h.1, h.2.1⟩)))
        by_cases h0 : 0 < out.length
        · have d2 : f[j] = false := by rw [Bool.eq_false_iff]; exact fun h => hd ⟨h0, h⟩
          rw [d2] at hc2
          clear d2 hd
          by_cases v1 : 0 ≤ r[j]
          · have v2 : ¬ r[j] < r.length := fun h => hv ⟨v1, h⟩
            clear hv
            go_wp2
            go_ret
            exact HFIN.out hw.out
          · clear hv
            go_wp2
            go_ret
            exact HFIN.out hw.out
        · clear hd
          by_cases v1 : 0 ≤ r[j]
          · have v2 : ¬ r[j] < r.length := fun h => hv ⟨v1, h⟩
            clear hv
            go_wp2
            go_ret
            exact HFIN.out hw.out
          · clear hv
            go_wp2
            go_ret
            exact HFIN.out hw.out

/-- Both Walks, whatever comes in. -/
theorem walk_any (A B : Option Addr) (c d : Nat) (r : List Int) (f : List Bool) (o : Int) (w : World) (O : Nat → Prop) (hr : Rd w O 1 A r.length (r.map (Value.int .i64))) (hf : Rd w O 1 B f.length (f.map Value.bool))
    (lr : r.length ≤ 9223372036854775807) (hO : ∀ k, O k → k < w.heap.size) :
    Calls Try.prog 13 #[.slice A r.length c, .slice B f.length d, .int .i64 o] w (RetL (Value.int .i64) O w (Way.walk r f o)) := by
  by_cases h : r.length = f.length ∧ r.length ≤ 64 ∧ 0 ≤ o ∧ o < r.length
  · obtain ⟨j, rfl⟩ := Int.eq_ofNat_of_zero_le h.2.2.1
    exact walk_yes A B c d r f j w O hr hf h.1 h.2.1 (by omega) hO
  · refine (walk_no A B c d r f o w lr h).mono ?_
    rintro e w' ⟨rfl, rfl⟩
    have : Way.walk r f o = [] := by unfold Way.walk; rw [if_neg h]
    rw [this]
    exact ⟨none, 0, rfl, Rd.nil _ _ _ _, Kept.refl _ _⟩
theorem rwalk_any (A B : Option Addr) (c d : Nat) (r : List Int) (f : List Bool) (o : Int) (w : World) (O : Nat → Prop) (hr : Rd w O 1 A r.length (r.map (Value.int .i64))) (hf : Rd w O 1 B f.length (f.map Value.bool))
    (lr : r.length ≤ 9223372036854775807) (hO : ∀ k, O k → k < w.heap.size) :
    Calls Try.prog 14 #[.slice A r.length c, .slice B f.length d, .int .i64 o] w (RetL (Value.int .i64) O w (Way.walk r f o)) := by
  by_cases h : r.length = f.length ∧ r.length ≤ 64 ∧ 0 ≤ o ∧ o < r.length
  · obtain ⟨j, rfl⟩ := Int.eq_ofNat_of_zero_le h.2.2.1
    exact rwalk_yes A B c d r f j w O hr hf h.1 h.2.1 (by omega) hO
  · refine (rwalk_no A B c d r f o w lr h).mono ?_
    rintro e w' ⟨rfl, rfl⟩
    have : Way.walk r f o = [] := by unfold Way.walk; rw [if_neg h]
    rw [this]
    exact ⟨none, 0, rfl, Rd.nil _ _ _ _, Kept.refl _ _⟩
end Go.Proofs.Ytpbbfpfmdckclaa
