/- Contract of relay.Walk. -/
import Derived.Test.YtpbbfpfmdckclaaRB
import Derived.Test.YtpbbfpfmdckclaaRC
namespace Go.Proofs.Ytpbbfpfmdckclaa
open Go.RowKit

theorem Try.infoInt : (Try.prog.info? 3).map (fun i => (i.zero, i.size, i.bytes)) = some (some (.int .i64 0), 1, 8) := by kernel_rfl
theorem Try.infoBool : (Try.prog.info? 4).map (fun i => (i.zero, i.size, i.bytes)) = some (some (.bool false), 1, 1) := by kernel_rfl
def lenOf : Value → Nat | .slice _ n _ => n | _ => 0
/-- where the been marks stand for a way -/
def beenOf (n : Nat) (out : List Int) : Array Value := ((List.range n).map fun i : Nat => Value.bool (out.contains (i : Int))).toArray

theorem beenOf_at {n : Nat} {out : List Int} {j : Nat} (hj : j < n) : (beenOf n out)[j]? = some (.bool (out.contains (j : Int))) := by
  simp [beenOf, hj]
theorem beenOf_set {n : Nat} {out : List Int} {j : Nat} : (beenOf n out).setIfInBounds j (.bool true) = beenOf n (out ++ [(j : Int)]) := by
  apply Array.ext
  · simp [beenOf]
  · intro i h1 h2
    simp [beenOf] at h1 h2
    unfold beenOf
    by_cases hi : j = i
    · subst hi; simp
    · simp [hi]; omega
theorem beenOf_nil (n : Nat) : Array.replicate n (Value.bool false) = beenOf n [] := by
  apply Array.ext
  · simp [beenOf]
  · intro i h1 h2
    simp [beenOf]

set_option maxHeartbeats 1000000 in
theorem walk_no (A B : Option Addr) (c d : Nat) (r : List Int) (f : List Bool) (o : Int) (w : World) (lr : r.length ≤ 9223372036854775807)
    (h : ¬ (r.length = f.length ∧ r.length ≤ 64 ∧ 0 ≤ o ∧ o < r.length)) :
    Calls Try.prog 13 #[.slice A r.length c, .slice B f.length d, .int .i64 o] w fun e w' => e = .returned (.slice none 0 0) ∧ w = w' := by
  by_cases h1 : r.length = f.length
  · have h1' : ((r.length : Int) != (f.length : Int)) = false := by simp [h1]
    by_cases h2 : r.length ≤ 64
    · by_cases h3 : 0 ≤ o
      · have h4 : ¬ o < r.length := fun h4 => h ⟨h1, h2, h3, h4⟩
        clear h1 h
        go_enter Try.func13, Try.ntmps13
        go_wp2
        go_ret
        exact ⟨rfl, rfl⟩
      · clear h1 h
        go_enter Try.func13, Try.ntmps13
        go_wp2
        go_ret
        exact ⟨rfl, rfl⟩
    · clear h1 h
      go_enter Try.func13, Try.ntmps13
      go_wp2
      go_ret
      exact ⟨rfl, rfl⟩
  · have h1' : ((r.length : Int) != (f.length : Int)) = true := by simp; omega
    clear h1 h
    go_enter Try.func13, Try.ntmps13
    go_wp2
    go_ret
    exact ⟨rfl, rfl⟩

structure WalkInv (r : List Int) (f : List Bool) (j0 : Nat) (w wr : World) (out : List Int) (x : Int) (fu : Nat) (v : Value) : Prop where
  own : wr.ownsRow (w.heap.size + 1) 3 1 v out.length (out.map (Value.int .i64))
  been : Blk wr w.heap.size 4 (beenOf r.length out)
  kept : Kept No w wr
  way : Way.walk r f j0 = Way.next r f fu out x
  fuel : fu + out.length = r.length
  nodup : out.Nodup
  range : ∀ y ∈ out, 0 ≤ y ∧ y < r.length
  some : 0 < out.length

theorem WalkInv.start {r : List Int} {f : List Bool} {j0 : Nat} {w wr : World} {v : Value} (h1 : r.length = f.length) (h2 : r.length ≤ 64) (h3 : j0 < r.length) (own : wr.ownsRow (w.heap.size + 1) 3 1 v 1 [Value.int .i64 j0])
    (been : Blk wr w.heap.size 4 (beenOf r.length [(j0 : Int)])) (kept : Kept No w wr) : WalkInv r f j0 w wr [(j0 : Int)] (r.getD j0 0) (r.length - 1) v where
  own := own
  been := been
  kept := kept
  way := by
    unfold Way.walk
    rw [if_pos ⟨h1, h2, by omega, by omega⟩]
    have e : r.length = (r.length - 1) + 1 := by omega
    have := Way.go_on (routes := r) (diffuse := f) (f := r.length - 1) (out := []) (x := (j0 : Int)) (.inr rfl)
    rw [← e] at this
    exact this
  fuel := by simp; omega
  nodup := by simp
  range := by intro y hy; simp at hy; subst hy; omega
  some := by simp

theorem WalkInv.room {r : List Int} {f : List Bool} {j0 : Nat} {w wr : World} {out : List Int} {fu j : Nat} {v : Value} (h : WalkInv r f j0 w wr out j fu v) (hj : j < r.length) (hn : out.contains (j : Int) = false) : out.length < r.length := by
  have hm : (j : Int) ∉ out := by simpa using hn
  have := Way.nodup_ints (n := r.length) (l := (j : Int) :: out) (List.nodup_cons.2 ⟨hm, h.nodup⟩) (by
    intro y hy
    rcases List.mem_cons.1 hy with rfl | hy
    · omega
    · exact h.range y hy)
  simp at this
  omega
theorem WalkInv.halt {r : List Int} {f : List Bool} {j0 : Nat} {w wr : World} {out : List Int} {fu : Nat} {x : Int} {v : Value} (h : WalkInv r f j0 w wr out x fu v) (hx : ¬ (0 ≤ x ∧ x < r.length ∧ out.contains x = false)) : Way.walk r f j0 = out := by
  rw [h.way, Way.next, if_neg (by simpa using hx)]
theorem WalkInv.stop {r : List Int} {f : List Bool} {j0 : Nat} {w wr : World} {out : List Int} {fu j : Nat} {v : Value} (h : WalkInv r f j0 w wr out j fu v) (hj : j < r.length) (hn : out.contains (j : Int) = false) (hd : f.getD j false = true) : Way.walk r f j0 = out ++ [(j : Int)] := by
  rw [h.way, Way.next, if_pos ⟨by omega, by omega, by simpa using hn⟩, Way.go_stop (by simpa using hd) h.some]
theorem WalkInv.step {r : List Int} {f : List Bool} {j0 : Nat} {w wr w1 : World} {out : List Int} {fu j : Nat} {v v1 : Value} (h : WalkInv r f j0 w wr out j fu v) (hj : j < r.length) (hn : out.contains (j : Int) = false) (hd : f.getD j false = false)
    (own : w1.ownsRow (w.heap.size + 1) 3 1 v1 (out.length + 1) (out.map (Value.int .i64) ++ [Value.int .i64 j])) (been : Blk w1 w.heap.size 4 (beenOf r.length (out ++ [(j : Int)]))) (kept : Kept No w w1) :
    WalkInv r f j0 w w1 (out ++ [(j : Int)]) (r.getD j 0) (fu - 1) v1 where
  own := by simpa using own
  been := been
  kept := kept
  way := by
    have hr := h.room hj hn
    have hf := h.fuel
    have e : fu = (fu - 1) + 1 := by omega
    rw [h.way, Way.next, if_pos ⟨by omega, by omega, by simpa using hn⟩]
    have := Way.go_on (routes := r) (diffuse := f) (f := fu - 1) (out := out) (x := (j : Int)) (.inl (by simpa using hd))
    rw [← e] at this
    exact this
  fuel := by have hr := h.room hj hn; have hf := h.fuel; simp; omega
  nodup := by
    have hm : (j : Int) ∉ out := by simpa using hn
    rw [List.nodup_append]
    exact ⟨h.nodup, by simp, by intro a ha b hb; simp at hb; subst hb; intro e; subst e; exact hm ha⟩
  range := by
    intro y hy
    rcases List.mem_append.1 hy with hy | hy
    · exact h.range y hy
    · simp at hy; subst hy; omega
  some := by simp

set_option maxHeartbeats 2000000 in
theorem walk_yes (A B : Option Addr) (c d : Nat) (r : List Int) (f : List Bool) (j0 : Nat) (w : World) (O : Nat → Prop) (hr : Rd w O 1 A r.length (r.map (Value.int .i64))) (hf : Rd w O 1 B f.length (f.map Value.bool))
    (h1 : r.length = f.length) (h2 : r.length ≤ 64) (h3 : j0 < r.length) (hO : ∀ k, O k → k < w.heap.size) :
    Calls Try.prog 13 #[.slice A r.length c, .slice B f.length d, .int .i64 j0] w (RetL (Value.int .i64) O w (Way.walk r f j0)) := by
  have h1' : ((r.length : Int) != (f.length : Int)) = false := by simp [h1]
  have HF := Lib.hid hf; clear hf
  have HR := Lib.hid hr; clear hr
  have HO := Lib.hid hO; clear hO
  have H1 := Lib.hid h1; clear h1
  obtain ⟨ad, rfl, _, hc⟩ := HR.out.elem h3
  have hlt0 : ad.block < w.heap.size := by have := World.block_lt_of_cell? w _ hc; rwa [block_of_add] at this
  go_enter Try.func13, Try.ntmps13
  go_wp2_with (at_make; refine wpList_mk _ rfl _ _ 23 rfl 4 (.bool false) 1 Try.underlying23 Try.infoBool rfl .i64 .i64 r.length rfl rfl (by omega) (by omega) ?_; intro w1 hB hK hS; have hb1 := rep_cell hB h3; have hb2 := hB.frozen j0; have hc1 := hK.cellN hc; have hne : w.heap.size ≠ ad.block := (by omega); have hlt : ad.block < w1.heap.size := (by omega); have HS := Lib.hid hS; clear hS)
  have hI : WalkInv r f j0 w ((w1.setCell ⟨w.heap.size, j0, none⟩ (.bool true)).alloc (.cells #[.int .i64 j0] 3)) [(j0 : Int)] (r.getD j0 0) (r.length - 1) (.slice (some ⟨w1.heap.size, 0, none⟩) 1 1) := by
    have hB' := hB
    rw [beenOf_nil] at hB'
    have hk1 : Kept (fun k => k = w.heap.size) w1 (w1.setCell ⟨w.heap.size, j0, none⟩ (.bool true)) := Kept.setCell (O := fun k => k = w.heap.size) w1 (p := ⟨w.heap.size, j0, none⟩) (.inl rfl) _
    refine WalkInv.start H1.out h2 h3 ?_ ?_ ?_
    · have := own_of_blk (base := w.heap.size + 1) (n := 1) (size := 1) (Blk.new (w1.setCell ⟨w.heap.size, j0, none⟩ (.bool true)) 3 #[.int .i64 j0]) (by have := HS.out; simp [World.setCell]; omega) rfl (by decide)
      simpa [World.setCell] using this
    · have := (hB'.set_ j0 (.bool true)).keepN (Kept.alloc No _ (.cells #[.int .i64 j0] 3))
      rwa [beenOf_set] at this
    · exact (hK.trans hk1 (fun k hk e => by omega)).then_ (Kept.alloc No _ _)
  generalize (w1.setCell ⟨w.heap.size, j0, none⟩ (.bool true)).alloc (.cells #[.int .i64 j0] 3) = w2 at hI ⊢
  have hx0 : r.getD j0 0 = r[j0] := by simp [h3]
  rw [hx0] at hI
  have HI := Lib.hid hI
  clear hI hx0
  go_loopw [9, 10] (fun p at_ wr => ∃ (out : List Int) (x : Int) (fu : Nat) (A' : Option Addr) (cp : Nat), p = .slice A' out.length cp ∧ at_ = .int .i64 x ∧ Hid (WalkInv r f j0 w wr out x fu (.slice A' out.length cp))) (fun p _ _ => 64 - lenOf p)
  case atStart => exact ⟨_, _, _, _, _, rfl, rfl, HI⟩
  case round =>
    clear HI
    obtain ⟨out, x, fu, A', cp, rfl, rfl, HI⟩ := hrel
    clear hb1 hb2 hc1 hne hlt HS hB hK hc hlt0
    have hfin : Way.walk r f j0 = out → RetL (Value.int .i64) O w (Way.walk r f j0) (.returned (.slice A' out.length cp)) wr := by
      intro e
      rw [e]
      refine ⟨A', cp, rfl, Rd.of_own HI.out.own ?_, HI.out.kept⟩
      intro g hg h
      subst hg
      have := (HI.out.own.lt g rfl).1
      have := HO.out g h
      omega
    have HFIN := Lib.hid hfin
    clear hfin
    by_cases hv : 0 ≤ x ∧ x < r.length
    · obtain ⟨v1, v2⟩ := hv
      obtain ⟨j, rfl⟩ := Int.eq_ofNat_of_zero_le v1
      have hjl : j < r.length := by omega
      have hbc : wr.cell? ⟨w.heap.size, j, none⟩ = some (.bool (out.contains (j : Int))) := by rw [HI.out.been.cell, beenOf_at hjl]
      have hbf := HI.out.been.frozen j
      cases hn : out.contains (j : Int)
      · rw [hn] at hbc
        have hroom := HI.out.room hjl hn
        have HN := Lib.hid hn
        clear hn
        have hjf : j < f.length := by have := H1.out; omega
        obtain ⟨ad', e, hne1, hc1⟩ := (HR.out.keepN HI.out.kept).elem hjl
        obtain rfl : ad = ad' := by injection e
        obtain ⟨bd, rfl, hne2, hc2⟩ := (HF.out.keepN HI.out.kept).elem hjf
        have lt1 : ad.block < w.heap.size := by
          obtain ⟨_, e, _, h⟩ := HR.out.elem hjl
          injection e with e
          subst e
          have := World.block_lt_of_cell? w _ h
          rwa [block_of_add] at this
        have lt2 : bd.block < w.heap.size := by
          obtain ⟨_, e, _, h⟩ := HF.out.elem hjf
          injection e with e
          subst e
          have := World.block_lt_of_cell? w _ h
          rwa [block_of_add] at this
        have hsz := HI.out.kept.size
        have hk1 : Kept (fun k => k = w.heap.size) wr (wr.setCell ⟨w.heap.size, j, none⟩ (.bool true)) := Kept.setCell (O := fun k => k = w.heap.size) wr (p := ⟨w.heap.size, j, none⟩) (.inl rfl) _
        have hk2 := hk1.then_ (Kept.alloc No (wr.setCell ⟨w.heap.size, j, none⟩ (.bool true)) (.cells #[.int .i64 j] 3))
        have hown2 := own_keep HI.out.own hk2 (fun k hk e => by have := (HI.out.own.lt k hk).1; omega)
        have HO2 := Lib.hid hown2
        have HK2 := Lib.hid hk2
        have hB2 := (HI.out.been.set_ j (.bool true)).keepN (Kept.alloc No _ (.cells #[.int .i64 j] 3))
        rw [beenOf_set] at hB2
        have HB2 := Lib.hid hB2
        have HN2 := Lib.hid (Blk.new' 3 #[Value.int .i64 j] (sz_set wr ⟨w.heap.size, j, none⟩ (.bool true))).news
        clear hown2 hk2 hk1 hB2
        have hcc1 := Lib.hid hc1
        have hcc2 := Lib.hid hc2
        clear hc1 hc2
        have hstep : ∀ (g cap : Nat) (w3 : World), w3.ownsRow (w.heap.size + 1) 3 1 (.slice (some ⟨g, 0, none⟩) (out.length + 1) cap) (out.length + 1) (out.map (Value.int .i64) ++ [Value.int .i64 j]) →
            Kept (fun k => (Value.slice A' out.length cp).ownBlock = some k) ((wr.setCell ⟨w.heap.size, j, none⟩ (.bool true)).alloc (.cells #[.int .i64 j] 3)) w3 →
            w3.cell? (ad.add j) = some (.int .i64 r[j]) ∧ w3.cell? (bd.add j) = some (.bool f[j]) ∧ Blk w3 w.heap.size 4 (beenOf r.length (out ++ [(j : Int)])) ∧ Kept No w w3 := by
          intro g cap w3 _ hk3
          have hge : ∀ k, (Value.slice A' out.length cp).ownBlock = some k → w.heap.size + 1 ≤ k := fun k hk => (HI.out.own.lt k hk).1
          have hk : Kept (fun k => w.heap.size ≤ k) wr w3 := (HK2.out.mono (fun k _ e => by omega)).trans hk3 (fun k _ e => by have := hge k e; omega)
          refine ⟨hk.cell hcc1.out (by rw [block_of_add]; omega), hk.cell hcc2.out (by rw [block_of_add]; omega), HB2.out.keep hk3 (fun e => by have := hge _ e; omega), ?_⟩
          exact HI.out.kept.trans hk (fun k hk e => by omega)
        have HSTEP := Lib.hid hstep
        clear hstep
        cases hd : f[j]
        · have hd' : f.getD j false = false := by simp [hjf, hd]
          have HD := Lib.hid hd'
          rw [hd] at HSTEP
          clear hd hd'
          go_wp2_with (at_builtin; refine wpList_app _ rfl (.tmp 62) (.tmp 64) 22 rfl (w.heap.size + 1) 3 (.int .i64 0) 1 8 Try.underlying22 Try.infoInt rfl (by decide) _ out.length (out.map (Value.int .i64)) rfl HO2.out _ 1 1 [.int .i64 j] rfl rfl HN2.out (by simp [Value.oneCell']) (by decide) (by omega) (by omega) (by simp [World.setCell]; omega) ?_; intro g cap w3 hw1 hw2 hw3 hw4; obtain ⟨q1, q2, q3, q4⟩ := HSTEP.out g cap w3 hw1 hw2)
          go_roundw
          case rel => exact ⟨out ++ [(j : Int)], r[j], fu - 1, some ⟨g, 0, none⟩, cap, by simp, rfl, Lib.hid (by have := HI.out.step hjl HN.out HD.out hw1 q3 q4; simpa [hjl] using this)⟩
          case measure => simp [lenOf]; omega
        · have hd' : f.getD j false = true := by simp [hjf, hd]
          have HD := Lib.hid hd'
          rw [hd] at HSTEP
          clear hd hd'
          go_wp2_with (at_builtin; refine wpList_app _ rfl (.tmp 62) (.tmp 64) 22 rfl (w.heap.size + 1) 3 (.int .i64 0) 1 8 Try.underlying22 Try.infoInt rfl (by decide) _ out.length (out.map (Value.int .i64)) rfl HO2.out _ 1 1 [.int .i64 j] rfl rfl HN2.out (by simp [Value.oneCell']) (by decide) (by omega) (by omega) (by simp [World.setCell]; omega) ?_; intro g cap w3 hw1 hw2 hw3 hw4; obtain ⟨q1, q2, q3, q4⟩ := HSTEP.out g cap w3 hw1 hw2)
          go_ret
          have hw := HI.out.stop hjl HN.out HD.out
          rw [hw]
          refine ⟨some ⟨g, 0, none⟩, cap, by simp, ?_, q4⟩
          have := Rd.of_own (O := O) hw1 (fun g' hg' h => by
            injection hg' with hg'
            injection hg' with hg'
            subst hg'
            have := (hw1.lt g rfl).1
            have := HO.out g h
            omega)
          simpa using this
      · rw [hn] at hbc
        have hw := Lib.hid (HI.out.halt (by rw [hn]; simp))
        clear hn
        go_wp2
        go_ret
        exact HFIN.out hw.out
    · have hw := Lib.hid (HI.out.halt (fun h => hv ⟨h.1, h.2.1⟩))
      by_cases v1 : 0 ≤ x
      · have v2 : ¬ x < r.length := fun h => hv ⟨v1, h⟩
        clear hv
        go_wp2
        go_ret
        exact HFIN.out hw.out
      · clear hv
        go_wp2
        go_ret
        exact HFIN.out hw.out
end Go.Proofs.Ytpbbfpfmdckclaa
