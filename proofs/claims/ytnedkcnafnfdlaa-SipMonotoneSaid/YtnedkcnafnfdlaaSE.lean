/- Contracts of sane and Scale; the walk of SipMonotone. -/
import Derived.Test.YtnedkcnafnfdlaaSD
import Derived.Shelf.Bits.Mul64
namespace Go.Proofs.Ytnedkcnafnfdlaa
open Go.RowKit

def hi64 (x y : Nat) : Nat := x * y / 18446744073709551616
set_option maxHeartbeats 1000000 in
theorem mul_any (x y : Nat) (hx : x < 18446744073709551616) (hy : y < 18446744073709551616) (w : World) :
    Calls Try.prog 20 #[.int .u64 x, .int .u64 y] w fun e w' => e = .returned (.tuple #[.int .u64 (hi64 x y : Nat), .int .u64 ((x * y % 18446744073709551616 : Nat) : Int)]) ∧ w' = w := by
  obtain ⟨bd, bt, bw, hhi⟩ := Lib.mul64_hi x y hx hy
  have ba := Lib.half_mul_le (a := x / 4294967296) (b := y / 4294967296) (by omega) (by omega)
  have bb := Lib.half_mul_le (a := x / 4294967296) (b := y % 4294967296) (by omega) (by omega)
  have bc := Lib.half_mul_le (a := x % 4294967296) (b := y / 4294967296) (by omega) (by omega)
  have ba' : x / 4294967296 * (y / 4294967296) < 18446744073709551616 := by omega
  have bb' : x / 4294967296 * (y % 4294967296) < 18446744073709551616 := by omega
  have bc' : x % 4294967296 * (y / 4294967296) < 18446744073709551616 := by omega
  have bh1 : x / 4294967296 * (y / 4294967296) + (x / 4294967296 * (y % 4294967296) + x % 4294967296 * (y % 4294967296) / 4294967296) / 4294967296 < 18446744073709551616 := by omega
  have bh : x / 4294967296 * (y / 4294967296) + (x / 4294967296 * (y % 4294967296) + x % 4294967296 * (y % 4294967296) / 4294967296) / 4294967296 + ((x / 4294967296 * (y % 4294967296) + x % 4294967296 * (y % 4294967296) / 4294967296) % 4294967296 + x % 4294967296 * (y / 4294967296)) / 4294967296 < 18446744073709551616 := by omega
  go_enter Try.func20, Try.ntmps20
  go_wp2
  simp only [Mul64.maskN x hx, Mul64.maskN y hy, Mul64.divN, Mul64.mulN, Mul64.addN, Mul64.wrapN _ bd, Mul64.wrapN _ bb', Mul64.wrapN _ bt, Mul64.maskN _ bt, Mul64.wrapN _ bc', Mul64.wrapN _ bw, Mul64.wrapN _ ba', Mul64.wrapN _ bh1, Mul64.wrapN _ bh, Mul64.wrapM (x * y)]
  rw [hhi]
  go_ret2
  exact ⟨rfl, rfl⟩

set_option maxHeartbeats 400000 in
theorem scale_any (x y : Nat) (hx : x < 18446744073709551616) (hy : y < 18446744073709551616) (w : World) :
    Calls Try.prog 10 #[.int .u64 x, .int .u64 y] w fun e w' => e = .returned (.int .u64 (hi64 x y : Nat)) ∧ w = w' := by
  go_enter Try.func10, Try.ntmps10
  go_wp2_with (go_at_call 20; refine (mul_any x y hx hy _).mono ?_; rintro e w' ⟨rfl, rfl⟩)
  go_ret
  exact ⟨rfl, rfl⟩

set_option maxHeartbeats 400000 in
theorem rscale_any (x y : Nat) (hx : x < 18446744073709551616) (hy : y < 18446744073709551616) (w : World) :
    Calls Try.prog 11 #[.int .u64 x, .int .u64 y] w fun e w' => e = .returned (.int .u64 (hi64 x y : Nat)) ∧ w = w' := by
  go_enter Try.func11, Try.ntmps11
  go_wp2_with (go_at_call 20; refine (mul_any x y hx hy _).mono ?_; rintro e w' ⟨rfl, rfl⟩)
  go_ret
  exact ⟨rfl, rfl⟩

theorem own_cap {w : World} {base : Nat} {e : TypeId} {A : Option Addr} {n m c : Nat} {xs : List Value} (h : w.ownsRow base e 1 (.slice A m c) n xs) : m ≤ c := by
  rcases h.2 with ⟨h, _⟩ | ⟨g, cap, cur, h, _, _, h2, _⟩
  · cases h; omega
  · cases h; omega
theorem Try.infoByte : (Try.prog.info? 5).map (fun i => (i.zero, i.size, i.bytes)) = some (some (.int .u8 0), 1, 1) := by kernel_rfl
def upto (n : Nat) : List Int := (List.range n).map fun (i : Nat) => (i : Int)
theorem upto_length (n : Nat) : (upto n).length = n := by simp [upto]
theorem upto_next (n : Nat) : upto (n + 1) = upto n ++ [(n : Int)] := by simp [upto, List.range_succ]
theorem exBegin : St.begin_ 506097522914230528 1084818905618843912 = ⟨8388350548712186997, 7737605742629119589, 7746018054687388513, 8893317812261383291⟩ := by kernel_rfl
theorem exW0 : word (((upto 15).drop (8 * 0)).take 8) = 506097522914230528 := by kernel_rfl
theorem exW1 : lastWord ((upto 15).drop (8 * 1)) 15 = 1084818905618843912 := by kernel_rfl
theorem exX0 : xor64 8893317812261383291 506097522914230528 = 8965941637590838651 := by kernel_rfl
theorem ex0 : St.round ⟨8388350548712186997, 7737605742629119589, 7746018054687388513, 8965941637590838651⟩ = ⟨7234622213559911551, 5679657091042289884, 17507541871953713710, 10561215458719233192⟩ := by kernel_rfl
theorem ex1 : St.round ⟨7234622213559911551, 5679657091042289884, 17507541871953713710, 10561215458719233192⟩ = ⟨5550533282829457632, 960101207715568036, 7155291096292130109, 11899158306042141128⟩ := by kernel_rfl
theorem exY0 : xor64 5550533282829457632 506097522914230528 = 5332668335157565920 := by kernel_rfl
theorem exA0 : St.absorb ⟨8388350548712186997, 7737605742629119589, 7746018054687388513, 8893317812261383291⟩ 506097522914230528 = ⟨5332668335157565920, 960101207715568036, 7155291096292130109, 11899158306042141128⟩ := by
  show (⟨xor64 (St.rounds ⟨8388350548712186997, 7737605742629119589, 7746018054687388513, xor64 8893317812261383291 506097522914230528⟩ 2).a 506097522914230528, (St.rounds ⟨8388350548712186997, 7737605742629119589, 7746018054687388513, xor64 8893317812261383291 506097522914230528⟩ 2).b, (St.rounds ⟨8388350548712186997, 7737605742629119589, 7746018054687388513, xor64 8893317812261383291 506097522914230528⟩ 2).c, (St.rounds ⟨8388350548712186997, 7737605742629119589, 7746018054687388513, xor64 8893317812261383291 506097522914230528⟩ 2).d⟩ : St) = _
  rw [exX0]
  simp only [St.rounds, ex0, ex1, exY0]
theorem exX1 : xor64 11899158306042141128 1084818905618843912 = 12262246680959504576 := by kernel_rfl
theorem ex2 : St.round ⟨5332668335157565920, 960101207715568036, 7155291096292130109, 12262246680959504576⟩ = ⟨6157934698269233248, 5516460237762138942, 13636055431817437569, 18128185969701712661⟩ := by kernel_rfl
theorem ex3 : St.round ⟨6157934698269233248, 5516460237762138942, 13636055431817437569, 18128185969701712661⟩ = ⟨3714271943849916249, 4706195620995523444, 14767653532181591229, 5950369851552862082⟩ := by kernel_rfl
theorem exY1 : xor64 3714271943849916249 1084818905618843912 = 4361089363066863185 := by kernel_rfl
theorem exA1 : St.absorb ⟨5332668335157565920, 960101207715568036, 7155291096292130109, 11899158306042141128⟩ 1084818905618843912 = ⟨4361089363066863185, 4706195620995523444, 14767653532181591229, 5950369851552862082⟩ := by
  show (⟨xor64 (St.rounds ⟨5332668335157565920, 960101207715568036, 7155291096292130109, xor64 11899158306042141128 1084818905618843912⟩ 2).a 1084818905618843912, (St.rounds ⟨5332668335157565920, 960101207715568036, 7155291096292130109, xor64 11899158306042141128 1084818905618843912⟩ 2).b, (St.rounds ⟨5332668335157565920, 960101207715568036, 7155291096292130109, xor64 11899158306042141128 1084818905618843912⟩ 2).c, (St.rounds ⟨5332668335157565920, 960101207715568036, 7155291096292130109, xor64 11899158306042141128 1084818905618843912⟩ 2).d⟩ : St) = _
  rw [exX1]
  simp only [St.rounds, ex2, ex3, exY1]
theorem exF : St.flip ⟨4361089363066863185, 4706195620995523444, 14767653532181591229, 5950369851552862082⟩ = ⟨4361089363066863185, 4706195620995523444, 14767653532181591106, 5950369851552862082⟩ := by kernel_rfl
theorem ex4 : St.round ⟨4361089363066863185, 4706195620995523444, 14767653532181591106, 5950369851552862082⟩ = ⟨17484471583065917694, 12419469187640764132, 11521806195894466874, 18249101767083229960⟩ := by kernel_rfl
theorem ex5 : St.round ⟨17484471583065917694, 12419469187640764132, 11521806195894466874, 18249101767083229960⟩ = ⟨13169646669688136884, 1601250028820315376, 2934296004437294406, 14503383583575763861⟩ := by kernel_rfl
theorem ex6 : St.round ⟨13169646669688136884, 1601250028820315376, 2934296004437294406, 14503383583575763861⟩ = ⟨6345601658181494246, 17904388966747400157, 2135071530876450039, 8513134298608192217⟩ := by kernel_rfl
theorem ex7 : St.round ⟨6345601658181494246, 17904388966747400157, 2135071530876450039, 8513134298608192217⟩ = ⟨17779319867929710577, 6105076025163569463, 1961373283477337434, 1735217956439975545⟩ := by kernel_rfl
theorem exO : St.out ⟨17779319867929710577, 6105076025163569463, 1961373283477337434, 1735217956439975545⟩ = 11613035633349379557 := by kernel_rfl
theorem sip_example : sipSum 506097522914230528 1084818905618843912 (upto 15) = 11613035633349379557 := by
  show (St.rounds (St.flip (((St.begin_ 506097522914230528 1084818905618843912).absorb (word (((upto 15).drop (8 * 0)).take 8))).absorb (lastWord ((upto 15).drop (8 * 1)) 15))) 4).out = _
  rw [exBegin, exW0, exW1, exA0, exA1, exF]
  simp only [St.rounds, ex4, ex5, ex6, ex7, exO]

set_option maxHeartbeats 2000000 in
theorem sane_any (w : World) : Calls Try.prog 7 #[] w fun e w' => e = .returned (.bool true) ∧ Hid (Kept No w w') := by
  have HE := Lib.hid sip_example
  go_enter Try.func7, Try.ntmps7
  go_wp2_with fail
  go_loopw [1, 2] (fun s i wr => ∃ (k : Nat) (A : Option Addr) (c : Nat), k ≤ 15 ∧ i = .int .u8 k ∧ s = .slice A k c ∧ Hid (k ≤ c ∧ wr.ownsRow w.heap.size 5 1 (.slice A k c) k ((upto k).map (Value.int .u8)) ∧ Kept (fun b => w.heap.size ≤ b) w wr)) (fun _ i _ => 15 - (intOf i).toNat)
  case atStart => exact ⟨0, none, 0, by omega, rfl, rfl, Lib.hid ⟨by omega, World.ownsRow_nil _ _ _ _, Kept.refl _ _⟩⟩
  case round =>
    obtain ⟨k, A, c, hk, rfl, rfl, HH⟩ := hrel
    by_cases hlt : k < 15
    · have HN1 := Lib.hid (Blk.new wr 5 #[Value.int .u8 k]).news
      have HO1 := Lib.hid (own_keep HH.out.2.1 (Kept.alloc No wr (.cells #[.int .u8 k] 5)) (fun _ _ e => no_of e))
      have hb1 : w.heap.size ≤ (wr.alloc (.cells #[.int .u8 k] 5)).heap.size := by have := HH.out.2.2.size; simp; omega
      go_wp2_with (at_builtin; refine wpList_app _ rfl (.tmp 7) (.tmp 9) 25 rfl w.heap.size 5 (.int .u8 0) 1 1 Try.underlying25 Try.infoByte rfl (by decide) _ k _ rfl HO1.out _ 1 1 [.int .u8 k] rfl rfl HN1.out (by simp [Value.oneCell']) (by decide) (by omega) (by omega) hb1 ?_; intro g1 c1 w2 o1 K1 t1 l1)
      go_roundw
      case rel =>
        refine ⟨k + 1, _, c1, by omega, by go_num, rfl, Lib.hid ⟨?_, ?_, ?_⟩⟩
        · exact own_cap o1
        · rw [upto_next, List.map_append]; exact o1
        · refine (HH.out.2.2.then_ (Kept.alloc No _ _)).trans K1 (fun b hb e => ?_)
          have := (HH.out.2.1.lt b e).1; omega
      case measure => simp [intOf]; omega
    · obtain rfl : k = 15 := by omega
      have hR : Rd wr No 1 A (upto 15).length ((upto 15).map (Value.int .u8)) := by rw [upto_length]; exact Rd.of_own HH.out.2.1 (fun _ _ h => h)
      go_wp2_with (go_at_call 8; refine (sum_any _ _ A c (upto 15) wr No hR (by rw [upto_length]; omega) (by rw [upto_length]; exact HH.out.1)).mono ?_; rintro e w3 ⟨rfl, HK⟩; rw [HE.out])
      go_ret
      exact ⟨rfl, Lib.hid ((HH.out.2.2.then_ HK.out).mono (fun b hb e => by omega))⟩

end Go.Proofs.Ytnedkcnafnfdlaa
