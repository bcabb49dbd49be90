/- Plain laws on ways and spies: what the first spy learns is the same for every origin before it. -/
import Derived.Test.YtpbbfpfmdckclaaRH
namespace Go.Proofs.Ytpbbfpfmdckclaa
open Go.RowKit

theorem seenFrom_spec {p : List Int} {s : List Bool} : ∀ (n k : Nat), k + n = p.length →
    (∃ i, k ≤ i ∧ i < p.length ∧ spyAt p s i = true ∧ (∀ j, k ≤ j → j < i → spyAt p s j = false) ∧ seenFrom p s k n = ((i : Int), p.getD (i - 1) 0)) ∨
    (seenFrom p s k n = (-1, -1) ∧ ∀ j, k ≤ j → j < p.length → spyAt p s j = false)
  | 0, k, h => .inr ⟨rfl, fun j h1 h2 => by omega⟩
  | n + 1, k, h => by
    rw [seenFrom]
    by_cases hs : spyAt p s k = true
    · rw [if_pos hs]
      exact .inl ⟨k, Nat.le_refl _, by omega, hs, fun j h1 h2 => by omega, rfl⟩
    · rw [if_neg hs]
      rcases seenFrom_spec (p := p) (s := s) n (k + 1) (by omega) with ⟨i, h1, h2, h3, h4, h5⟩ | ⟨h1, h2⟩
      · refine .inl ⟨i, by omega, h2, h3, fun j hj1 hj2 => ?_, h5⟩
        by_cases e : j = k
        · subst e; simpa using hs
        · exact h4 j (by omega) hj2
      · refine .inr ⟨h1, fun j hj1 hj2 => ?_⟩
        by_cases e : j = k
        · subst e; simpa using hs
        · exact h2 j (by omega) hj2
theorem seen_spec (p : List Int) (s : List Bool) :
    (∃ i, i < p.length ∧ spyAt p s i = true ∧ (∀ j, j < i → spyAt p s j = false) ∧ seen p s = ((i : Int), p.getD (i - 1) 0)) ∨ (seen p s = (-1, -1) ∧ ∀ j, j < p.length → spyAt p s j = false) := by
  rcases seenFrom_spec (p := p) (s := s) p.length 0 (by omega) with ⟨i, _, h2, h3, h4, h5⟩ | ⟨h1, h2⟩
  · exact .inl ⟨i, h2, h3, fun j hj => h4 j (Nat.zero_le _) hj, h5⟩
  · exact .inr ⟨h1, fun j hj => h2 j (Nat.zero_le _) hj⟩
theorem spyAt_pos {p : List Int} {s : List Bool} {i : Nat} (h : spyAt p s i = true) : 0 < i ∧ 0 ≤ p.getD i 0 ∧ p.getD i 0 < s.length ∧ s.getD (p.getD i 0).toNat false = true := by
  simpa [spyAt] using h
theorem seen_is {p : List Int} {s : List Bool} {i : Nat} (h1 : i < p.length) (h2 : spyAt p s i = true) (h3 : ∀ j, j < i → spyAt p s j = false) : seen p s = ((i : Int), p.getD (i - 1) 0) := by
  rcases seen_spec p s with ⟨k, k1, k2, k3, k4⟩ | ⟨k1, k2⟩
  · have : k = i := by
      rcases Nat.lt_trichotomy k i with h | h | h
      · have := h3 k h; rw [k2] at this; cases this
      · exact h
      · have := k3 i h; rw [h2] at this; cases this
    subst this
    exact k4
  · have := k2 i h1
    rw [h2] at this
    cases this
theorem getD_mem {l : List Int} {t : Nat} (h : t < l.length) : l.getD t 0 ∈ l := by
  simp [h]
theorem nodup_getD {l : List Int} (hn : l.Nodup) {a b : Nat} (ha : a < l.length) (hb : b < l.length) (h : l.getD a 0 = l.getD b 0) : a = b := by
  simp only [List.getD_eq_getElem?_getD, List.getElem?_eq_getElem ha, List.getElem?_eq_getElem hb, Option.getD_some] at h
  exact (List.getElem_inj hn).1 h

/-- a way from the k-th node of a way goes along with it, as far as that one does not end -/
theorem along {r : List Int} {f : List Bool} {o : Int} {l v : List Int} {k : Nat} (hl : Way.Chain r f o l) (hv : Way.Chain r f (l.getD k 0) v) (he : Way.Ended r f v) :
    ∀ t, k + t < l.length → t < v.length ∧ v.getD t 0 = l.getD (k + t) 0 := by
  intro t
  induction t using Nat.strongRecOn with
  | _ t0 ih =>
  intro ht
  cases t0 with
  | zero => exact ⟨hv.pos, hv.head⟩
  | succ t =>
    have iht := ih t (by omega) (by omega)
    have hlink := hl.link (k + t) (by omega)
    have hlt : t + 1 < v.length := by
      refine Nat.lt_of_not_le fun hle => ?_
      have hlast : v.getLastD 0 = v.getD t 0 := by
        rw [List.getLastD_eq_getLast?, List.getLast?_eq_getElem?, show v.length - 1 = t by omega]; simp
      have hr := hl.range _ (getD_mem (show k + t + 1 < l.length by omega))
      rcases he with ⟨h1, h2⟩ | h2
      · rw [hlast, iht.2] at h2
        have := hl.plain (k + t) (by omega) (by omega)
        rw [this] at h2
        cases h2
      · apply h2
        rw [hlast, iht.2, ← hlink]
        refine ⟨hr.1, hr.2, fun hm => ?_⟩
        obtain ⟨u, hu, hue⟩ := List.mem_iff_getElem.1 hm
        have h3 : v.getD u 0 = l.getD (k + u) 0 := (ih u (by omega) (by omega)).2
        have h4 : v.getD u 0 = v[u] := by simp [hu]
        have := nodup_getD hl.nodup (show k + u < l.length by omega) (show k + t + 1 < l.length by omega) (by rw [← h3, h4, hue])
        omega
    refine ⟨hlt, ?_⟩
    rw [hv.link t hlt, iht.2, ← hlink]
    rfl

/-- THE PLAIN LAW: from every node before the first spy, the same is learnt. -/
theorem hides {r : List Int} {f s : List Bool} {o : Int} {i k : Nat} (h1 : r.length = f.length) (h2 : r.length ≤ 64) (h3 : 0 ≤ o) (h4 : o < r.length)
    (hi : i < (Way.walk r f o).length) (hs : spyAt (Way.walk r f o) s i = true) (hn : ∀ j, j < i → spyAt (Way.walk r f o) s j = false) (hk : k < i) :
    seen (Way.walk r f ((Way.walk r f o).getD k 0)) s = (((i - k : Nat) : Int), (Way.walk r f o).getD (i - 1) 0) ∧ i - k < (Way.walk r f ((Way.walk r f o).getD k 0)).length ∧
      (Way.walk r f ((Way.walk r f o).getD k 0)).getD (i - k) 0 = (Way.walk r f o).getD i 0 := by
  have hl := (Way.walk_chain h1 h2 h3 h4).1
  have hr := hl.range _ (getD_mem (show k < (Way.walk r f o).length by omega))
  have hv := Way.walk_chain (f := f) h1 h2 hr.1 hr.2
  generalize Way.walk r f o = l at *
  generalize Way.walk r f (l.getD k 0) = v at *
  have ha := along hl hv.1 hv.2
  have hik := ha (i - k) (by omega)
  have e : k + (i - k) = i := by omega
  rw [e] at hik
  refine ⟨?_, hik.1, hik.2⟩
  have hsp : ∀ t, 0 < t → k + t < l.length → spyAt v s t = spyAt l s (k + t) := by
    intro t ht hkt
    unfold spyAt
    rw [(ha t hkt).2]
    simp [ht, show 0 < k + t by omega]
  have e1 := hsp (i - k) (by omega) (by omega)
  rw [e] at e1
  rw [seen_is hik.1 (by rw [e1]; exact hs) (fun j hj => ?_)]
  · have := ha (i - k - 1) (by omega)
    rw [this.2, show k + (i - k - 1) = i - 1 by omega]
  · by_cases h0 : 0 < j
    · rw [hsp j h0 (by omega)]
      exact hn _ (by omega)
    · obtain rfl : j = 0 := by omega
      simp [spyAt]
end Go.Proofs.Ytpbbfpfmdckclaa
