/- Contract of the law's graph. -/
import Derived.Test.YtpbbfpfmdckclaaRG
namespace Go.Proofs.Ytpbbfpfmdckclaa
open Go.RowKit

set_option maxHeartbeats 400000 in
theorem new_any (A : Option Addr) (n c : Nat) (w : World) :
    Calls Try.prog 18 #[.slice A n c] w fun e w' => e = .returned (.pointer (some ⟨w.heap.size, 0, none⟩)) ∧ w.alloc (.cells #[.slice A n c, .int .i64 0] 68) = w' := by
  go_enter Try.func18, Try.ntmps18
  go_wp2
  go_ret
  exact ⟨rfl, rfl⟩
theorem deck_new {A : Option Addr} {c : Nat} {xs : List Int} {w : World} {O : Nat → Prop} (h : Rd w O 1 A xs.length (xs.map (Value.int .i64))) (hl : xs.length ≤ 9223372036854775807) (hO : ∀ k, O k → k < w.heap.size) :
    Deck (w.alloc (.cells #[.slice A xs.length c, .int .i64 0] 68)) O w.heap.size :=
  ⟨A, c, 0, xs, Blk.new _ _ _, Nat.zero_le _, hl, fun h => by have := hO _ h; omega,
    (h.more (by omega) (fun k hk h => by rcases h with h | h; exact h; omega)).keepN (Kept.alloc No _ _)⟩

/-- what graph has made so far: k routes, and who diffuses and spies, in rows of their own from base on -/
structure Graph (wr : World) (base n k : Nat) (vr vf vs : Value) (r : List Int) (f s : List Bool) : Prop where
  lr : r.length = k
  lf : f.length = k
  ls : s.length = k
  own1 : wr.ownsRow base 3 1 vr k (r.map (Value.int .i64))
  own2 : wr.ownsRow base 4 1 vf k (f.map Value.bool)
  own3 : wr.ownsRow base 4 1 vs k (s.map Value.bool)
  ne12 : ∀ b, vf.ownBlock = some b → vr.ownBlock ≠ some b
  ne13 : ∀ b, vs.ownBlock = some b → vr.ownBlock ≠ some b
  ne23 : ∀ b, vs.ownBlock = some b → vf.ownBlock ≠ some b
  range : ∀ x ∈ r, -1 ≤ x ∧ x < n

theorem Graph.keep {w w' : World} {base n k : Nat} {vr vf vs : Value} {r : List Int} {f s : List Bool} {O : Nat → Prop} (h : Graph w base n k vr vf vs r f s) (hk : Kept O w w') (hO : ∀ b, O b → b < base) : Graph w' base n k vr vf vs r f s :=
  { h with
    own1 := own_keep h.own1 hk (fun b hb ho => by have := (h.own1.lt b hb).1; have := hO b ho; omega)
    own2 := own_keep h.own2 hk (fun b hb ho => by have := (h.own2.lt b hb).1; have := hO b ho; omega)
    own3 := own_keep h.own3 hk (fun b hb ho => by have := (h.own3.lt b hb).1; have := hO b ho; omega) }

def sliceLen : Value → Nat → Prop | .slice _ n _, k => n = k | _, _ => False
theorem own_len {w : World} {base : Nat} {e : TypeId} {v : Value} {n : Nat} {xs : List Value} (h : w.ownsRow base e 1 v n xs) : ∃ A c, v = .slice A n c := by
  rcases h.2 with ⟨rfl, rfl⟩ | ⟨g, cap, cur, rfl, _⟩
  · exact ⟨none, 0, rfl⟩
  · exact ⟨_, cap, rfl⟩

/-- graph's answer -/
def GraphRet (w : World) (e : Ending) (w' : World) : Prop :=
  ∃ (n : Nat) (vr vf vs : Value) (r : List Int) (f s : List Bool), 1 ≤ n ∧ n ≤ 8 ∧ e = .returned (.tuple #[vr, vf, vs]) ∧ Graph w' (w.heap.size + 1) n n vr vf vs r f s ∧ Kept No w w'

theorem Graph.next {w0 w1 w2 w3 w4 w5 w6 W1 W3 W5 : World} {base n k d : Nat} {vr vf vs : Value} {r : List Int} {f s : List Bool} {x : Int} {p q : Bool} {g1 c1 g2 c2 g3 c3 : Nat}
    (h : Graph w0 base n k vr vf vs r f s) (hd : d < base) (hx : -1 ≤ x ∧ x < n)
    (k1 : Kept (fun b => b = d) w0 w1) (a1 : Kept No w1 W1) (o1 : w2.ownsRow base 3 1 (.slice (some ⟨g1, 0, none⟩) (k + 1) c1) (k + 1) (r.map (Value.int .i64) ++ [.int .i64 x])) (K1 : Kept (fun b => vr.ownBlock = some b) W1 w2) (t1 : vr.ownBlock = some g1 ∨ g1 = W1.heap.size)
    (k2 : Kept (fun b => b = d) w2 w3) (a2 : Kept No w3 W3) (o2 : w4.ownsRow base 4 1 (.slice (some ⟨g2, 0, none⟩) (k + 1) c2) (k + 1) (f.map Value.bool ++ [.bool p])) (K2 : Kept (fun b => vf.ownBlock = some b) W3 w4) (t2 : vf.ownBlock = some g2 ∨ g2 = W3.heap.size)
    (k3 : Kept (fun b => b = d) w4 w5) (a3 : Kept No w5 W5) (o3 : w6.ownsRow base 4 1 (.slice (some ⟨g3, 0, none⟩) (k + 1) c3) (k + 1) (s.map Value.bool ++ [.bool q])) (K3 : Kept (fun b => vs.ownBlock = some b) W5 w6) (t3 : vs.ownBlock = some g3 ∨ g3 = W5.heap.size) :
    Graph w6 base n (k + 1) (.slice (some ⟨g1, 0, none⟩) (k + 1) c1) (.slice (some ⟨g2, 0, none⟩) (k + 1) c2) (.slice (some ⟨g3, 0, none⟩) (k + 1) c3) (r ++ [x]) (f ++ [p]) (s ++ [q]) := by
  have kd : ∀ {W W' : World} {e : TypeId} {v : Value} {m : Nat} {xs : List Value}, W.ownsRow base e 1 v m xs → Kept (fun b => b = d) W W' → W'.ownsRow base e 1 v m xs :=
    fun ho hk => own_keep ho hk (fun b hb e => by have := (ho.lt b hb).1; omega)
  have kn : ∀ {W W' : World} {e : TypeId} {v : Value} {m : Nat} {xs : List Value}, W.ownsRow base e 1 v m xs → Kept No W W' → W'.ownsRow base e 1 v m xs := fun ho hk => own_keep ho hk (fun _ _ e => no_of e)
  have f1 := kn (kd h.own2 k1) a1
  have s1 := kn (kd h.own3 k1) a1
  have n1f := own_apart (m := k + 1) (c := c1) t1 f1 h.ne12
  have n1s := own_apart (m := k + 1) (c := c1) t1 s1 h.ne13
  have f2 := kn (kd (own_other K1 f1 h.ne12) k2) a2
  have s2 := kn (kd (own_other K1 s1 h.ne13) k2) a2
  have r2 := kn (kd o1 k2) a2
  have n2s := own_apart (m := k + 1) (c := c2) t2 s2 h.ne23
  have n21 := own_apart (v2 := .slice (some ⟨g1, 0, none⟩) (k + 1) c1) (m := k + 1) (c := c2) t2 r2 (fun b hb hf => n1f b hf hb)
  have s3 := kn (kd (own_other K2 s2 h.ne23) k3) a3
  have r3 := kn (kd (own_other K2 r2 (fun b hb hf => n1f b hf hb)) k3) a3
  have f3 := kn (kd o2 k3) a3
  have n31 := own_apart (v2 := .slice (some ⟨g1, 0, none⟩) (k + 1) c1) (m := k + 1) (c := c3) t3 r3 (fun b hb hs => n1s b hs hb)
  have n32 := own_apart (v2 := .slice (some ⟨g2, 0, none⟩) (k + 1) c2) (m := k + 1) (c := c3) t3 f3 (fun b hb hs => n2s b hs hb)
  refine ⟨by simp [h.lr], by simp [h.lf], by simp [h.ls], ?_, ?_, by simpa using o3, fun b hb hr => n21 b hr hb, fun b hb hr => n31 b hr hb, fun b hb hr => n32 b hr hb, ?_⟩
  · simpa using own_other K3 r3 (fun b hb hs => n1s b hs hb)
  · simpa using own_other K3 f3 (fun b hb hs => n2s b hs hb)
  · intro y hy
    rcases List.mem_append.1 hy with hy | hy
    · exact h.range y hy
    · simp at hy; subst hy; exact hx

set_option maxHeartbeats 2000000 in
theorem graph_any (A : Option Addr) (c : Nat) (l : List Int) (w : World) (h : Rd w No 1 A l.length (l.map (Value.int .i64))) (hl : l.length ≤ 9223372036854775807) :
    Calls Try.prog 11 #[.slice A l.length c] w (GraphRet w) := by
  have HD := Lib.hid ((deck_new (c := c) h hl (fun _ h => no_of h)).more (O' := fun b => w.heap.size + 1 ≤ b) (fun k hk h => absurd hk (by simp; omega)))
  clear h
  go_enter Try.func11, Try.ntmps11
  go_wp2_with (go_at_call 18; refine (new_any A l.length c w).mono ?_; rintro e w' ⟨rfl, rfl⟩)
  refine (range_any _ 1 8 _ _ HD.out (by omega) (by omega) (by omega)).mono ?_
  rintro e w1 ⟨x, rfl, hx1, hx2, hD1, hK1, hS1⟩
  obtain ⟨n, rfl⟩ := Int.eq_ofNat_of_zero_le (show 0 ≤ x by omega)
  have hKw : Kept (fun b => w.heap.size ≤ b) w w1 := (Kept.alloc _ w _).trans hK1 (fun k hk e => by omega)
  have hsz : w.heap.size + 1 = w1.heap.size := by rw [hS1]; simp
  have HS := Lib.hid hsz
  have HK := Lib.hid hKw
  have HD1 := Lib.hid hD1
  clear hD1 hK1 hS1 HD hsz hKw
  go_wp2_with fail
  go_loopw [7, 8, 9, 10] (fun vr vf vs i wr => ∃ (k : Nat) (r : List Int) (f s : List Bool), k ≤ n ∧ i = .int .i64 k ∧ Hid (Graph wr (w.heap.size + 1) n k vr vf vs r f s ∧ Deck wr (fun b => w.heap.size + 1 ≤ b) w.heap.size ∧ Kept (fun b => w.heap.size ≤ b) w wr ∧ w.heap.size + 1 ≤ wr.heap.size)) (fun _ _ _ i _ => n - (intOf i).toNat)
  case atStart => exact ⟨0, [], [], [], Nat.zero_le _, rfl, Lib.hid ⟨⟨rfl, rfl, rfl, World.ownsRow_nil _ _ _ _, World.ownsRow_nil _ _ _ _, World.ownsRow_nil _ _ _ _, by simp [Value.ownBlock], by simp [Value.ownBlock], by simp [Value.ownBlock], by simp⟩, HD1.out, HK.out, by have := HS.out; omega⟩⟩
  case round =>
    obtain ⟨k, r, f, s, hk, rfl, hh⟩ := hrel
    by_cases hlt : k < n
    · obtain ⟨hg, hd, hK, hsz⟩ := hh.out
      have HG := Lib.hid hg
      have HK0 := Lib.hid hK
      clear hg hK hh
      go_wp2_with fail
      refine (next_any _ _ wr _ hd (by omega) (by omega)).mono ?_
      rintro e w1 ⟨x, rfl, hx1, hx2, hD1, hk1, hs1⟩
      have HN1 := Lib.hid (Blk.new w1 3 #[Value.int .i64 (x - 1)]).news
      have ho := own_keep (own_keep HG.out.own1 hk1 (fun b hb e => by have := (HG.out.own1.lt b hb).1; omega)) (Kept.alloc No w1 (.cells #[.int .i64 (x - 1)] 3)) (fun _ _ e => no_of e)
      have HO1 := Lib.hid ho
      have hb1 : w.heap.size + 1 ≤ (w1.alloc (.cells #[.int .i64 (x - 1)] 3)).heap.size := by simp; omega
      have HD1' := Lib.hid (hD1.keepN (Kept.alloc No w1 (.cells #[.int .i64 (x - 1)] 3)))
      have hk1' := Lib.hid hk1
      have hs1' := Lib.hid hs1
      clear hd ho hD1 hk1 hs1
      go_wp2_with (at_builtin; refine wpList_app _ rfl (.tmp 20) (.tmp 26) 22 rfl (w.heap.size + 1) 3 (.int .i64 0) 1 8 Try.underlying22 Try.infoInt rfl (by decide) u7 k _ rfl HO1.out _ 1 1 [.int .i64 (x - 1)] rfl rfl HN1.out (by simp [Value.oneCell']) (by decide) (by omega) (by omega) hb1 ?_; intro g1 c1 w2 o1 K1 t1 l1)
      have hd2 := HD1'.out.keep K1 (fun b hb => (HG.out.own1.lt b hb).1)
      have hsz2 := Nat.le_trans hb1 K1.size
      have HO1' := Lib.hid o1
      have HK1 := Lib.hid K1
      have HT1 := Lib.hid t1
      clear o1 K1 t1 hb1 HO1 HN1
      refine (next_any _ _ w2 _ hd2 (by omega) (by omega)).mono ?_
      rintro e w3 ⟨y, rfl, hy1, hy2, hD3, hk3, hs3⟩
      have HN2 := Lib.hid (Blk.new w3 4 #[Value.bool (y == 0)]).news
      have HW3 := Lib.hid (Kept.alloc No w3 (.cells #[.bool (y == 0)] 4))
      have ho2 : w2.ownsRow (w.heap.size + 1) 4 1 u8 k (f.map Value.bool) := own_other HK1.out (own_keep (own_keep HG.out.own2 hk1'.out (fun b hb e => by have := (HG.out.own2.lt b hb).1; omega)) (Kept.alloc No _ _) (fun _ _ e => no_of e)) HG.out.ne12
      have HO2 := Lib.hid (own_keep (own_keep ho2 hk3 (fun b hb e => by have := (ho2.lt b hb).1; omega)) HW3.out (fun _ _ e => no_of e))
      have hb2 : w.heap.size + 1 ≤ (w3.alloc (.cells #[.bool (y == 0)] 4)).heap.size := by simp; omega
      have HD3' := Lib.hid (hD3.keepN HW3.out)
      have hk3' := Lib.hid hk3
      clear hd2 ho2 hD3 hk3 hs3
      go_wp2_with (at_builtin; refine wpList_app _ rfl (.tmp 28) (.tmp 32) 23 rfl (w.heap.size + 1) 4 (.bool false) 1 1 Try.underlying23 Try.infoBool rfl (by decide) u8 k _ rfl HO2.out _ 1 1 [.bool (y == 0)] rfl rfl HN2.out (by simp [Value.oneCell']) (by decide) (by omega) (by omega) hb2 ?_; intro g2 c2 w4 o2 K2 t2 l2)
      have hd4 := HD3'.out.keep K2 (fun b hb => (HG.out.own2.lt b hb).1)
      have hsz4 := Nat.le_trans hb2 K2.size
      have HO2' := Lib.hid o2
      have HK2 := Lib.hid K2
      have HT2 := Lib.hid t2
      clear o2 K2 t2 hb2 HO2 HN2
      refine (next_any _ _ w4 _ hd4 (by omega) (by omega)).mono ?_
      rintro e w5 ⟨z, rfl, hz1, hz2, hD5, hk5, hs5⟩
      have HN3 := Lib.hid (Blk.new w5 4 #[Value.bool (z == 0)]).news
      have HW5 := Lib.hid (Kept.alloc No w5 (.cells #[.bool (z == 0)] 4))
      have ho3 : w2.ownsRow (w.heap.size + 1) 4 1 u9 k (s.map Value.bool) := own_other HK1.out (own_keep (own_keep HG.out.own3 hk1'.out (fun b hb e => by have := (HG.out.own3.lt b hb).1; omega)) (Kept.alloc No _ _) (fun _ _ e => no_of e)) HG.out.ne13
      have ho4 : w4.ownsRow (w.heap.size + 1) 4 1 u9 k (s.map Value.bool) := own_other HK2.out (own_keep (own_keep ho3 hk3'.out (fun b hb e => by have := (ho3.lt b hb).1; omega)) HW3.out (fun _ _ e => no_of e)) HG.out.ne23
      have HO3 := Lib.hid (own_keep (own_keep ho4 hk5 (fun b hb e => by have := (ho4.lt b hb).1; omega)) HW5.out (fun _ _ e => no_of e))
      have hb3 : w.heap.size + 1 ≤ (w5.alloc (.cells #[.bool (z == 0)] 4)).heap.size := by simp; omega
      have HD5' := Lib.hid (hD5.keepN HW5.out)
      have hk5' := Lib.hid hk5
      clear hd4 ho3 ho4 hD5 hk5 hs5
      go_wp2_with (at_builtin; refine wpList_app _ rfl (.tmp 34) (.tmp 38) 23 rfl (w.heap.size + 1) 4 (.bool false) 1 1 Try.underlying23 Try.infoBool rfl (by decide) u9 k _ rfl HO3.out _ 1 1 [.bool (z == 0)] rfl rfl HN3.out (by simp [Value.oneCell']) (by decide) (by omega) (by omega) hb3 ?_; intro g3 c3 w6 o3 K3 t3 l3)
      have hN := Lib.hid (HG.out.next (by omega) (show -1 ≤ x - 1 ∧ x - 1 < n by omega) hk1'.out (Kept.alloc No _ _) HO1'.out HK1.out HT1.out hk3'.out HW3.out HO2'.out HK2.out HT2.out hk5'.out HW5.out o3 K3 t3)
      have hd6 := Lib.hid (HD5'.out.keep K3 (fun b hb => (HG.out.own3.lt b hb).1))
      have hK6 : Kept (fun b => w.heap.size ≤ b) w w6 := by
        refine (((((HK0.out.trans hk1'.out ?_).trans (Kept.alloc No _ _) ?_).trans HK1.out ?_).trans hk3'.out ?_).trans HW3.out ?_).trans HK2.out ?_ |>.trans hk5'.out ?_ |>.trans HW5.out ?_ |>.trans K3 ?_
        all_goals (intro b hb e)
        · omega
        · exact no_of e
        · have := (HG.out.own1.lt b e).1; omega
        · omega
        · exact no_of e
        · have := (HG.out.own2.lt b e).1; omega
        · omega
        · exact no_of e
        · have := (HG.out.own3.lt b e).1; omega
      have HK6 := Lib.hid hK6
      have hsz6 := Nat.le_trans hb3 K3.size
      clear o3 K3 t3 hb3 hK6
      go_roundw
      case rel => exact ⟨k + 1, r ++ [x - 1], f ++ [y == 0], s ++ [z == 0], by omega, by go_num, Lib.hid ⟨hN.out, hd6.out, HK6.out, hsz6⟩⟩
      case measure => simp [intOf]; omega
    · go_wp2_with fail
      go_ret3
      obtain ⟨hg, hd, hK, _⟩ := hh.out
      obtain rfl : k = n := by omega
      exact ⟨k, _, _, _, r, f, s, by omega, by omega, rfl, hg, hK.mono (fun b hb h => by omega)⟩
end Go.Proofs.Ytpbbfpfmdckclaa
