/- Contract of the program's Sum. -/
import Derived.Test.YtnedkcnafnfdlaaSC
namespace Go.Proofs.Ytnedkcnafnfdlaa
open Go.RowKit

def St.begin_ (k0 k1 : Int) : St := ⟨xor64 k0 8317987319222330741, xor64 k1 7237128888997146477, xor64 k0 7816392313619706465, xor64 k1 8387220255154660723⟩
def St.absorbTo (v : St) (b : List Int) : Nat → St
  | 0 => v
  | i + 1 => (v.absorbTo b i).absorb (word ((b.drop (8 * i)).take 8))
theorem Rd.part {w : World} {O : Nat → Prop} {ad : Addr} {n k m : Nat} {xs : List Value} (h : Rd w O 1 (some ad) n xs) (hk : k + m ≤ n) : Rd w O 1 (some (ad.add k)) m ((xs.drop k).take m) := by
  refine ⟨by have := h.1; simp; omega, fun hm => ?_⟩
  obtain ⟨ad', e, hO, hc⟩ := h.2 (by omega)
  injection e with e
  subst e
  refine ⟨_, rfl, by rw [block_of_add]; exact hO, fun j u hu => ?_⟩
  rw [add_of_add]
  rw [List.getElem?_take] at hu
  split at hu
  · rw [List.getElem?_drop] at hu; exact hc _ _ hu
  · cases hu

theorem wpStill_ld {P : Program} {ops : Array Oper} {W : World} {Q : Act → Prop} {a : Act} {o : Oper} {rest : List Oper} (hg : o.guard = none) (t : TypeId) (x : Operand) (hop : o.op = .load t x) (g : Nat) (hx : a.eval x = .pointer (some ⟨g, 0, none⟩)) (tb : TypeId) (cs : Array Value) (d : TypeDesc) (hB : Blk W g tb cs)
    (hu : P.underlying t = some d) (hd : (match d with | .struct _ | .array _ _ => true | _ => false) = true) (hi : (P.info? t).map (·.size) = some cs.size)
    (h : wpStill P ops W Q rest (a.put o.dst (.agg cs))) : wpStill P ops W Q (o :: rest) a := by
  have hw : Region.wanted o (yielded ops a.tmps) = true := by simp [Region.wanted, hg]
  refine wpStill_step fun K hK => ?_
  rw [if_pos hw]
  unfold Oper.still execOp
  simp only [hop, hx, Instr.loadAt, Instr.sureAddr, Sem.run_bind, Sem.run_pure, Result.andThen_ok, run_loadVar_row W g tb t cs _ d hB hu hd hi, Oper.stillUpon_value]
  exact hK _ h

theorem Rd.from_ {w : World} {O : Nat → Prop} {A : Option Addr} {n c k : Nat} {xs : List Value} (h : Rd w O 1 A n xs) (hk : k ≤ n) (hc : n ≤ c) : Rd w O 1 (if c = k then A else A.map (·.add k)) (n - k) (xs.drop k) := by
  refine ⟨by have := h.1; simp; omega, fun hm => ?_⟩
  obtain ⟨ad', rfl, hO, hcc⟩ := h.2 (by omega)
  rw [if_neg (by omega)]
  refine ⟨_, rfl, by rw [block_of_add]; exact hO, fun j u hu => ?_⟩
  rw [add_of_add]
  rw [List.getElem?_drop] at hu
  exact hcc _ _ hu

def lastWord (p : List Int) (n : Nat) : Int := bits BinOp.or IntKind.u64 (word p) (IntKind.u64.wrap (IntKind.u64.wrap ((n : Int).tmod 256) * 72057594037927936))
def St.flip (v : St) : St := ⟨v.a, v.b, xor64 v.c 255, v.d⟩
def St.out (v : St) : Int := xor64 (xor64 (xor64 v.a v.b) v.c) v.d
def sipSum (k0 k1 : Int) (b : List Int) : Int := (St.rounds (St.flip (((St.begin_ k0 k1).absorbTo b (b.length / 8)).absorb (lastWord (b.drop (8 * (b.length / 8))) b.length))) 4).out
set_option maxHeartbeats 4000000 in
theorem sum_any (k0 k1 : Int) (A : Option Addr) (cap : Nat) (b : List Int) (w : World) (O : Nat → Prop) (h : Rd w O 1 A b.length (b.map (Value.int .u8))) (hl : b.length ≤ 1000000) (hc : b.length ≤ cap) :
    Calls Try.prog 8 #[.agg #[.int .u64 k0, .int .u64 k1], .slice A b.length cap] w fun e w' => e = .returned (.int .u64 (sipSum k0 k1 b)) ∧ Hid (Kept No w w') := by
  have H := Lib.hid h
  clear h
  have HS := Lib.hid (show sipSum k0 k1 b = (St.rounds (St.flip (((St.begin_ k0 k1).absorbTo b (b.length / 8)).absorb (lastWord (b.drop (8 * (b.length / 8))) b.length))) 4).out from rfl)
  generalize sipSum k0 k1 b = goal at *
  go_enter Try.func8, Try.ntmps8
  go_wp2_with fail
  have hdiv : (b.length : Int) / 8 = ((b.length / 8 : Nat) : Int) := by omega
  rw [hdiv]
  clear hdiv
  have hB : Blk ((w.alloc (.cells #[.int .u64 k0, .int .u64 k1] 24)).alloc (.cells #[.int .u64 (bits BinOp.xor IntKind.u64 k0 8317987319222330741), .int .u64 (bits BinOp.xor IntKind.u64 k1 7237128888997146477), .int .u64 (bits BinOp.xor IntKind.u64 k0 7816392313619706465), .int .u64 (bits BinOp.xor IntKind.u64 k1 8387220255154660723)] 37)) (w.heap.size + 1) 37 (St.begin_ k0 k1).row := Blk.new' _ _ (by simp)
  have hK : Kept (fun b => w.heap.size ≤ b) w ((w.alloc (.cells #[.int .u64 k0, .int .u64 k1] 24)).alloc (.cells #[.int .u64 (bits BinOp.xor IntKind.u64 k0 8317987319222330741), .int .u64 (bits BinOp.xor IntKind.u64 k1 7237128888997146477), .int .u64 (bits BinOp.xor IntKind.u64 k0 7816392313619706465), .int .u64 (bits BinOp.xor IntKind.u64 k1 8387220255154660723)] 37)) := (Kept.alloc _ _ _).then_ (Kept.alloc No _ _)
  generalize (w.alloc (.cells #[.int .u64 k0, .int .u64 k1] 24)).alloc (.cells #[.int .u64 (bits BinOp.xor IntKind.u64 k0 8317987319222330741), .int .u64 (bits BinOp.xor IntKind.u64 k1 7237128888997146477), .int .u64 (bits BinOp.xor IntKind.u64 k0 7816392313619706465), .int .u64 (bits BinOp.xor IntKind.u64 k1 8387220255154660723)] 37) = w1 at *
  generalize bits BinOp.xor IntKind.u64 k0 8317987319222330741 = y0
  generalize bits BinOp.xor IntKind.u64 k1 7237128888997146477 = y1
  generalize bits BinOp.xor IntKind.u64 k0 7816392313619706465 = y2
  generalize bits BinOp.xor IntKind.u64 k1 8387220255154660723 = y3
  have HH := Lib.hid (And.intro hB hK)
  clear hB hK
  generalize hv0 : St.begin_ k0 k1 = v0 at *
  have HV0 := Lib.hid hv0
  clear hv0
  have h8 : 8 * (b.length / 8) ≤ b.length := by omega
  have h8' : b.length < 8 * (b.length / 8) + 8 := by omega
  generalize hn : b.length / 8 = n at *
  have HNN := Lib.hid hn
  clear hn
  have HZ' := Lib.hid (show ∀ z : St, (Try.prog.info? 37).map (·.size) = some z.row.size from fun _ => Try.size4)
  have HY' := Lib.hid (show ∀ z y : St, z.row.size = y.row.size from fun _ _ => rfl)
  go_loopw [25] (fun i wr => ∃ k : Nat, k ≤ n ∧ i = .int .i64 k ∧ Hid (Blk wr (w.heap.size + 1) 37 (v0.absorbTo b k).row ∧ Kept (fun b => w.heap.size ≤ b) w wr)) (fun i _ => n - (intOf i).toNat)
  case atStart => exact ⟨0, by omega, rfl, HH⟩
  case round =>
    clear HH
    obtain ⟨k, hk, rfl, HH⟩ := hrel
    by_cases hlt : k < n
    · have hnext : v0.absorbTo b (k + 1) = (v0.absorbTo b k).absorb (word ((b.drop (8 * k)).take 8)) := rfl
      have HN := Lib.hid hnext
      clear hnext
      generalize v0.absorbTo b k = u at *
      obtain ⟨ad, rfl, _, _⟩ := H.out.elem (k := 8 * k) (by omega)
      have hne : ¬ cap = 8 * k := by omega
      have hpart := (((H.out.part (k := 8 * k) (m := 8) (by omega)).more (by omega) (O' := fun b => w.heap.size ≤ b) (fun k hk h => by omega)).keepO HH.out.2).keepN (Kept.drew No _)
      have hlp : ((b.drop (8 * k)).take 8).length = 8 := by simp; omega
      rw [← List.map_drop, ← List.map_take] at hpart
      generalize (b.drop (8 * k)).take 8 = part at *
      have hB := HH.out.1.keepN (Kept.drew No _)
      have e1 : IntKind.i64.wrap (8 * (k : Int)) = 8 * (k : Int) := IntWalk.i64_in _ (by omega)
      have e2 : IntKind.i64.wrap (8 * (k : Int) + 8) = 8 * (k : Int) + 8 := IntWalk.i64_in _ (by omega)
      have e3 : (8 * (k : Int)).toNat = 8 * k := by omega
      have e4 : (8 * (k : Int) + 8).toNat = 8 * k + 8 := by omega
      have e5 : max (8 * (k : Int) + 8) 0 = 8 * (k : Int) + 8 := by omega
      have e6 : (0 : Int) ≤ 8 * (k : Int) + 8 ∧ 8 * (k : Int) + 8 ≤ (cap : Int) := by omega
      have e7 : (0 : Int) ≤ 8 * (k : Int) ∧ 8 * (k : Int) ≤ 8 * (k : Int) + 8 := by omega
      have e8 : 8 * k + 8 - 8 * k = 8 := by omega
      go_upto_region 6 with (fail)
      refine wp_region_still_tail 9 (by as_aux_lemma => kernel_rfl) (by as_aux_lemma => kernel_rfl) ?_
      simp only [List.take_succ_cons, List.take_zero, List.drop_succ_cons, List.drop_zero]
      refine wpStill_ld rfl 37 _ rfl _ rfl _ u.row _ hB Try.underlying37 rfl (HZ'.out _) ?_
      iterate 7 still_step
      have hw8 := word_any (some (ad.add (8 * k))) (cap - 8 * k) part wr.drew _ (by rw [hlp]; exact hpart) (by omega)
      rw [hlp] at hw8
      still_call (still_left hw8)
      refine wpStill_nil ?_
      change wpList _ _ _ _ _ wr.drew
      clear e1 e2 e3 e4 e5 e6 e7 e8 hw8
      go_wp2_with (first
        | (go_at_call 14; refine (absorb_any u (word part) _).mono ?_; rintro e w2 ⟨rfl, hK2⟩; have hB2 := hB.keepN hK2.out)
        | (with_reducible refine wpList_st _ rfl 37 _ _ rfl _ rfl (u.absorb (word part)).row rfl _ _ hB2 (HY'.out _ _) (HZ'.out _) (row_cell _) ?_; intro w3 hB3 hK3 hS3))
      go_roundw
      case rel =>
        refine ⟨k + 1, by omega, by go_num, Lib.hid ⟨?_, ?_⟩⟩
        · rw [HN.out]; exact hB3
        · exact (HH.out.2.then_ ((Kept.drew No _).then_ hK2.out)).trans hK3 (fun k hk e => by omega)
      case measure => simp [intOf]; omega
    · obtain rfl : k = n := by omega
      generalize hq1 : v0.absorbTo b k = u at *
      have HQ1 := Lib.hid hq1
      clear hq1
      have hpart := (((Rd.from_ H.out (k := 8 * k) (by omega) hc).more (by omega) (O' := fun b => w.heap.size ≤ b) (fun k hk h => by omega)).keepO HH.out.2).keepN (Kept.drew No _)
      have hlp : (b.drop (8 * k)).length = b.length - 8 * k := by simp
      rw [← List.map_drop] at hpart
      generalize hq2 : b.drop (8 * k) = part at *
      have HQ2 := Lib.hid hq2
      clear hq2
      have hB := HH.out.1.keepN (Kept.drew No _)
      have e1 : IntKind.i64.wrap (8 * (k : Int)) = 8 * (k : Int) := IntWalk.i64_in _ (by omega)
      have e3 : (8 * (k : Int)).toNat = 8 * k := by omega
      have e7 : (0 : Int) ≤ 8 * (k : Int) ∧ 8 * (k : Int) ≤ (b.length : Int) := by omega
      go_upto_region 8 with (fail)
      refine wp_region_still_tail 12 (by as_aux_lemma => kernel_rfl) (by as_aux_lemma => kernel_rfl) ?_
      simp only [List.take_succ_cons, List.take_zero, List.drop_succ_cons, List.drop_zero]
      refine wpStill_ld rfl 37 _ rfl _ rfl _ u.row _ hB Try.underlying37 rfl (HZ'.out _) ?_
      iterate 4 still_step
      have hw8 := word_any (if cap = 8 * k then A else A.map (·.add (8 * k))) (cap - 8 * k) part wr.drew _ (by rw [hlp]; exact hpart) (by omega)
      rw [hlp] at hw8
      still_call (still_left hw8)
      iterate 6 still_step
      refine wpStill_nil ?_
      change wpList _ _ _ _ _ wr.drew
      clear e1 e3 e7 hw8
      have HW : bits BinOp.or IntKind.u64 (word part) (IntKind.u64.wrap (IntKind.u64.wrap ((b.length : Int).tmod 256) * 72057594037927936)) = lastWord part b.length := by rw [lastWord]
      rw [HW]
      clear HW
      generalize hq3 : lastWord part b.length = m at *
      have HQ3 := Lib.hid hq3
      clear hq3
      generalize (if cap = 8 * k then A else Option.map (fun x => x.add (8 * k)) A) = A' at *
      generalize IntKind.u64.wrap (IntKind.u64.wrap ((b.length : Int).tmod 256) * 72057594037927936) = q1
      generalize IntKind.u64.wrap ((b.length : Int).tmod 256) = q2
      generalize (b.length : Int).tmod 256 = q3
      go_upto_region 9 with (first
        | (go_at_call 14; (with_reducible refine (absorb_any u m _).mono ?_); rintro e w2 ⟨rfl, hK2⟩; have hB2 := hB.keepN hK2.out)
        | (with_reducible refine wpList_st _ rfl 37 _ _ rfl _ rfl (u.absorb m).row rfl _ _ hB2 (HY'.out _ _) (HZ'.out _) (row_cell _) ?_; intro w3 hB3 hK3 hS3))
      have hK := (HH.out.2.then_ ((Kept.drew No _).then_ hK2.out)).trans hK3 (fun k hk e => by omega)
      clear hB hB2 hK2 hK3 HH hS3 hpart
      generalize hq4 : u.absorb m = u1 at *
      have HQ4 := Lib.hid hq4
      clear hq4
      obtain ⟨a1, b1, c1, d1⟩ := u1
      have c2 : w3.cell? ⟨w.heap.size + 1, 2, none⟩ = some (.int .u64 c1) := hB3.cell 2
      have f2 := hB3.frozen 2
      go_upto_region 10 with (fail)
      have hB4 : Blk (w3.setCell ⟨w.heap.size + 1, 2, none⟩ (.int .u64 (bits BinOp.xor IntKind.u64 c1 255))) (w.heap.size + 1) 37 (St.row ⟨a1, b1, xor64 c1 255, d1⟩) := hB3.set_ 2 _
      have hK4 : Kept (fun k => k = w.heap.size + 1) w3 (w3.setCell ⟨w.heap.size + 1, 2, none⟩ (.int .u64 (bits BinOp.xor IntKind.u64 c1 255))) := Kept.setCell (O := fun k => k = w.heap.size + 1) w3 (p := ⟨w.heap.size + 1, 2, none⟩) (.inl rfl) _
      generalize w3.setCell ⟨w.heap.size + 1, 2, none⟩ (.int .u64 (bits BinOp.xor IntKind.u64 c1 255)) = w4 at *
      generalize bits BinOp.xor IntKind.u64 c1 255 = z1
      have hK' := hK.trans hK4 (fun k hk e => by omega)
      clear hK hK4 hB3 c2 f2
      generalize hq5 : (⟨a1, b1, xor64 c1 255, d1⟩ : St) = u2 at *
      have HQ5 := Lib.hid hq5
      clear hq5
      go_upto_region 11 with (first
        | (with_reducible refine wpList_ld _ rfl 37 _ rfl _ rfl _ u2.row _ hB4 Try.underlying37 rfl (HZ'.out _) ?_)
        | (go_at_call 16; refine (rounds_any u2 4 _ (by omega)).mono ?_; rintro e w5 ⟨rfl, hK5⟩; have hB5 := hB4.keepN hK5.out)
        | (with_reducible refine wpList_st _ rfl 37 _ _ rfl _ rfl (u2.rounds 4).row rfl _ _ hB5 (HY'.out _ _) (HZ'.out _) (row_cell _) ?_; intro w6 hB6 hK6 hS6))
      have hK := (hK'.then_ hK5.out).trans hK6 (fun k hk e => by omega)
      clear hK5 hK6 hB4 hB5 hK'
      generalize hq6 : u2.rounds 4 = u3 at *
      have HQ6 := Lib.hid hq6
      clear hq6
      obtain ⟨a3, b3, c3, d3⟩ := u3
      have c0 : w6.cell? ⟨w.heap.size + 1, 0, none⟩ = some (.int .u64 a3) := hB6.cell 0
      have c1' : w6.cell? ⟨w.heap.size + 1, 1, none⟩ = some (.int .u64 b3) := hB6.cell 1
      have c2 : w6.cell? ⟨w.heap.size + 1, 2, none⟩ = some (.int .u64 c3) := hB6.cell 2
      have c3' : w6.cell? ⟨w.heap.size + 1, 3, none⟩ = some (.int .u64 d3) := hB6.cell 3
      go_wp2_with fail
      go_ret
      refine ⟨?_, Lib.hid (hK.mono (fun k hk e => by omega))⟩
      rw [HS.out]
      show _ = Ending.returned (Value.int .u64 (St.out (St.rounds ⟨a1, b1, xor64 c1 255, d1⟩ 4)))
      rw [HQ5.out, HQ6.out]
      rfl
end Go.Proofs.Ytnedkcnafnfdlaa
