/- Regions without an order. -/
import Derived.Test.YthplooifbkopgaaE24
import Derived.Test.YthplooifbkopgaaE26
namespace Go.Proofs.Ythplooifbkopgaa
set_option linter.unusedVariables false
set_option linter.unusedSimpArgs false

def stepI (cb : CB) (nb : Nat) (ks : List (COp × Fl)) : List Nat → St → Option St
  | [], σ => some σ
  | i :: l, σ => match ks[i]? with
    | some (o, q) => match stepOp cb nb σ o with
      | some σ' => if flOk nb σ o q σ' then stepI cb nb ks l σ' else none
      | none => none
    | none => none
theorem stepI_cons {cb : CB} {nb : Nat} {ks : List (COp × Fl)} {i : Nat} {l : List Nat} {σ σ' : St} : stepI cb nb ks (i :: l) σ = some σ' ↔ ∃ o q σ1, ks[i]? = some (o, q) ∧ stepOp cb nb σ o = some σ1 ∧ flOk nb σ o q σ1 = true ∧ stepI cb nb ks l σ1 = some σ' := by
  constructor
  · intro h
    simp only [stepI] at h
    split at h
    · rename_i o q hk
      split at h
      · rename_i σ1 h1
        split at h
        · rename_i hc
          exact ⟨o, q, σ1, hk, h1, hc, h⟩
        · cases h
      · cases h
    · cases h
  · rintro ⟨o, q, σ1, h1, h2, h3, h4⟩
    simp only [stepI, h1, h2]
    rw [if_pos h3]
    exact h4
theorem stepD_stepI {cb : CB} {nb : Nat} (ks : List (COp × Fl)) : ∀ (l : List (COp × Fl)) (k : Nat) (σ : St), (∀ i, l[i]? = ks[k + i]?) → stepD cb nb l σ = stepI cb nb ks (List.range' k l.length) σ
  | [], k, σ, h => rfl
  | (o, q) :: l, k, σ, h => by
    have h0 : ks[k]? = some (o, q) := by simpa using (h 0).symm
    have ih := fun σ => stepD_stepI (cb := cb) (nb := nb) ks l (k + 1) σ (fun i => by have := h (i + 1); simpa [Nat.add_assoc, Nat.add_comm 1 i] using this)
    simp only [stepD, List.length_cons, List.range'_succ, stepI, h0, ih]
    cases stepOp cb nb σ o <;> rfl
theorem bubble {cb : CB} {nb : Nat} {ks : List (COp × Fl)} {i : Nat} {l2 : List Nat} {σ' : St} : ∀ (l1 : List Nat) (σ : St), (∀ j ∈ l1, ∀ a b, ks[j]? = some a → ks[i]? = some b → pairOk a b = true) → stepI cb nb ks (l1 ++ i :: l2) σ = some σ' → stepI cb nb ks (i :: (l1 ++ l2)) σ = some σ'
  | [], σ, _, h => h
  | j :: l1, σ, hp, h => by
    rw [List.cons_append, stepI_cons] at h
    obtain ⟨oj, qj, σ1, h1, h2, h3, h4⟩ := h
    have ih := bubble l1 σ1 (fun j' hj' => hp j' (by simp [hj'])) h4
    rw [stepI_cons] at ih
    obtain ⟨oi, qi, σ2, g1, g2, g3, g4⟩ := ih
    have pk := hp j (by simp) _ _ h1 g1
    obtain ⟨σ1', e1, e2, e3, e4⟩ := swapF h2 g2 h3 g3 pk
    rw [stepI_cons]
    refine ⟨oi, qi, σ1', g1, e1, e3, ?_⟩
    rw [List.cons_append, stepI_cons]
    exact ⟨oj, qj, σ2, h1, e2, e4, g4⟩

/-! ### what stands before -/
theorem bits_spec (acc : Array Nat) (j : Nat) : ∀ (l : List Edge) (s : Nat), (l.foldl (fun s e => if Region.binds .any e = true then s ||| 2 ^ e.on ||| acc.getD e.on 0 else s) s).testBit j = true → s.testBit j = true ∨ ∃ e ∈ l, Region.binds .any e = true ∧ (j = e.on ∨ (acc.getD e.on 0).testBit j = true)
  | [], s, h => .inl h
  | e :: l, s, h => by
    rw [List.foldl_cons] at h
    rcases bits_spec acc j l _ h with h | ⟨e', he', h⟩
    · split at h
      · rename_i hb
        simp only [Nat.testBit_or, Nat.testBit_two_pow, Bool.or_eq_true, decide_eq_true_eq] at h
        rcases h with (h | h) | h
        · exact .inl h
        · exact .inr ⟨e, by simp, hb, .inl h.symm⟩
        · exact .inr ⟨e, by simp, hb, .inr h⟩
      · exact .inl h
    · exact .inr ⟨e', by simp [he'], h⟩
def BInv (acc : Array Nat) (pre : List Oper) : Prop := acc.size = pre.length ∧ ∀ i j, (acc.getD i 0).testBit j = true → ∃ o, pre[i]? = some o ∧ ∃ e ∈ o.after, Region.binds .any e = true ∧ (j = e.on ∨ (acc.getD e.on 0).testBit j = true)
theorem getD_push {acc : Array Nat} {b : Nat} (i : Nat) (h : i < acc.size) : (acc.push b).getD i 0 = acc.getD i 0 := by
  rw [Array.getD_eq_getD_getElem?, Array.getD_eq_getD_getElem?, Array.getElem?_push_lt h, Array.getElem?_eq_getElem h]
theorem getD_bit {acc : Array Nat} {i j : Nat} (h : (acc.getD i 0).testBit j = true) : i < acc.size := by
  rcases Nat.lt_or_ge i acc.size with h' | h'
  · exact h'
  · rw [Array.getD_eq_getD_getElem?, Array.getElem?_eq_none h'] at h; simp at h
theorem before_inv : ∀ (l pre : List Oper) (acc : Array Nat), BInv acc pre → BInv (l.foldl (fun acc o => acc.push (o.after.foldl (fun s e => if Region.binds .any e = true then s ||| 2 ^ e.on ||| acc.getD e.on 0 else s) 0)) acc) (pre ++ l)
  | [], pre, acc, h => by simpa using h
  | o :: l, pre, acc, h => by
    rw [List.foldl_cons]
    have := before_inv l (pre ++ [o]) (acc.push (o.after.foldl (fun s e => if Region.binds .any e = true then s ||| 2 ^ e.on ||| acc.getD e.on 0 else s) 0)) ⟨by simp [h.1], fun i j hb => by
      have hi := getD_bit hb
      have up : ∀ e : Nat, (acc.getD e 0).testBit j = true → ∀ b, ((acc.push b).getD e 0).testBit j = true := fun e he b => by rw [getD_push e (getD_bit he)]; exact he
      by_cases hlt : i < acc.size
      · rw [getD_push i hlt] at hb
        obtain ⟨o', h1, e, h2, h3, h4⟩ := h.2 i j hb
        exact ⟨o', by rw [List.getElem?_append_left (by rw [← h.1]; exact hlt)]; exact h1, e, h2, h3, h4.imp id (fun hh => up _ hh _)⟩
      · have hie : i = acc.size := by simp at hi; omega
        subst hie
        refine ⟨o, by rw [h.1]; simp, ?_⟩
        rw [Array.getD_eq_getD_getElem?, Array.getElem?_push_size, Option.getD_some, ← Array.foldl_toList] at hb
        rcases bits_spec acc j _ _ hb with hb | ⟨e, h2, h3, h4⟩
        · simp at hb
        · exact ⟨e, by simpa using h2, h3, h4.imp id (fun hh => up _ hh _)⟩⟩
    simpa using this
theorem before_spec (ops : Array Oper) (i j : Nat) (h : ((Region.before ops).getD i 0).testBit j = true) : ∃ o, ops[i]? = some o ∧ ∃ e ∈ o.after, Region.binds .any e = true ∧ (j = e.on ∨ ((Region.before ops).getD e.on 0).testBit j = true) := by
  have := before_inv ops.toList [] #[] ⟨rfl, fun i j h => by simp at h⟩
  have e : Region.before ops = ops.toList.foldl (fun acc o => acc.push (o.after.foldl (fun s e => if Region.binds .any e = true then s ||| 2 ^ e.on ||| acc.getD e.on 0 else s) 0)) #[] := by
    unfold Region.before
    rw [← Array.foldl_toList]
  rw [← e] at this
  obtain ⟨o, h1, h2⟩ := this.2 i j h
  exact ⟨o, by simpa using h1, h2⟩

/-! ### any order -/
section
variable {ren : Nat → Option Nat} {we : World} {ωe : Nat → Ow} {U : Nat → Nat → Prop} {O : Nat → Prop} {P : Program} {nb : Nat} {cb : CB}

def unl (ops : Array Oper) (listed : Array Bool) : List Nat := (List.range ops.size).filter (fun i => !listed.getD i true)
theorem mem_unl {ops : Array Oper} {listed : Array Bool} {i : Nat} : i ∈ unl ops listed ↔ i < ops.size ∧ listed.getD i true = false := by
  simp [unl, List.mem_filter]
theorem unl_sorted (ops : Array Oper) (listed : Array Bool) : (unl ops listed).Pairwise (· < ·) := List.pairwise_lt_range.filter _
theorem unl_set {ops : Array Oper} {listed : Array Bool} {i : Nat} {l1 l2 : List Nat} (hi : i < listed.size) (h : unl ops listed = l1 ++ i :: l2) : unl ops (listed.setIfInBounds i true) = l1 ++ l2 := by
  have hs := unl_sorted ops listed
  rw [h, List.pairwise_append] at hs
  obtain ⟨_, h2, h3⟩ := hs
  rw [List.pairwise_cons] at h2
  have e : unl ops (listed.setIfInBounds i true) = (unl ops listed).filter (fun x => x != i) := by
    unfold unl
    rw [List.filter_filter]
    apply List.filter_congr
    intro x _
    by_cases hx : i = x
    · subst hx
      simp [Array.getD_eq_getD_getElem?, hi]
    · rw [getD_set_ne true hx]
      have : (x != i) = true := by simpa using fun e => hx e.symm
      rw [this]; simp
  rw [e, h, List.filter_append, List.filter_cons]
  simp only [bne_self_eq_false, Bool.false_eq_true, if_false]
  rw [List.filter_eq_self.2 (fun x hx => by have := h3 x hx i (by simp); simp; omega), List.filter_eq_self.2 (fun x hx => by have := h2.1 x hx; simp; omega)]
theorem cOps_get {h : Hint} {rid : Nat} {ops : Array Oper} : ∀ (l : List Oper) (k : Nat) (cs : List COp), cOps P ren h rid ops l k = some cs → cs.length = l.length ∧ ∀ i o, l[i]? = some o → ∃ c, cs[i]? = some c ∧ cOp P ren h rid ops (k + i) o = some c
  | [], k, cs, hc => by cases hc; exact ⟨rfl, by simp⟩
  | o :: l, k, cs, hc => by
    simp only [cOps, Option.bind_eq_bind, Option.bind_eq_some_iff, Option.pure_def, Option.some.injEq] at hc
    obtain ⟨c, h1, rest, h2, rfl⟩ := hc
    obtain ⟨q1, q2⟩ := cOps_get l (k + 1) rest h2
    refine ⟨by simp [q1], fun i o' ho' => ?_⟩
    cases i with
    | zero => simp at ho'; subst ho'; exact ⟨c, rfl, h1⟩
    | succ i =>
      obtain ⟨c', g1, g2⟩ := q2 i o' (by simpa using ho')
      exact ⟨c', by simpa using g1, by rw [show k + (i + 1) = k + 1 + i by omega]; exact g2⟩
theorem needQuiet_get (before : Array Nat) (cs : List COp) (i : Nat) (x : COp × Fl) (h : (needQuiet before cs)[i]? = some x) : cs[i]? = some x.1 := by
  unfold needQuiet at h
  rw [List.getElem?_map, List.getElem?_zipIdx] at h
  cases hc : cs[i]? with
  | none => simp [hc] at h
  | some c => simp [hc] at h; rw [← h]
theorem needQuiet_len (before : Array Nat) (cs : List COp) : (needQuiet before cs).length = cs.length := by simp [needQuiet]
theorem any_ok (hcb : CBok P ren cb) {h : Hint} {rid : Nat} {ops : Array Oper} {cs : List COp} (hc : cOps P ren h rid ops ops.toList 0 = some cs) (he : edgesBack ops = true) (hp : pairsOk (Region.before ops) (needQuiet (Region.before ops) cs) = true) {Q : Exit → Act → World → Prop} {σ' : St} :
    ∀ (fuel : Nat) (listed : Array Bool) {σ : St} {a : Act} {w : World} {ω : Nat → Ow} {μ : Nat → Nat}, listed.size = ops.size → (∀ i j, listed.getD i false = true → ((Region.before ops).getD i 0).testBit j = true → listed.getD j false = true) → (unl ops listed).length = fuel →
      Rel ren we ωe U O σ a w ω μ → stepI cb nb (needQuiet (Region.before ops) cs) (unl ops listed) σ = some σ' → Post ren we ωe U O nb μ σ' (Q .normal) → wpAny P .any ops Q fuel listed a w := by
  obtain ⟨hlen, hget⟩ := cOps_get _ _ _ hc
  intro fuel
  induction fuel with
  | zero =>
    intro listed σ a w ω μ hsz hdown hl R hs hQ
    have hnil : unl ops listed = [] := List.length_eq_zero_iff.1 hl
    rw [hnil] at hs
    cases hs
    refine ⟨?_, hQ _ _ _ _ R (fun _ _ => rfl)⟩
    rw [List.eq_nil_iff_forall_not_mem]
    intro j hj
    obtain ⟨h1, o, h2, _⟩ := mem_ready.1 hj
    have : j ∈ unl ops listed := mem_unl.2 ⟨(Array.getElem?_eq_some_iff.1 h2).1, h1⟩
    rw [hnil] at this; cases this
  | succ fuel ih =>
    intro listed σ a w ω μ hsz hdown hl R hs hQ
    have lst : ∀ j, j < ops.size → listed.getD j true = true → listed.getD j false = true := fun j hj h => by
      rw [Array.getD_eq_getD_getElem?, Array.getElem?_eq_getElem (by omega)] at h ⊢; exact h
    have unlst : ∀ j, listed.getD j true = false → listed.getD j false = true → False := fun j h1 h2 => by
      rcases Nat.lt_or_ge j listed.size with h' | h'
      · rw [Array.getD_eq_getD_getElem?, Array.getElem?_eq_getElem h'] at h1 h2; simp at h1 h2; rw [h1] at h2; cases h2
      · rw [Array.getD_eq_getD_getElem?, Array.getElem?_eq_none h'] at h2; cases h2
    refine ⟨fun hr => ?_, fun i hi => ?_⟩
    · exfalso
      cases hu : unl ops listed with
      | nil => rw [hu] at hl; cases hl
      | cons i rest =>
        have hm : i ∈ unl ops listed := by rw [hu]; simp
        obtain ⟨m1, m2⟩ := mem_unl.1 hm
        have : i ∈ Region.ready .any ops listed := by
          refine mem_ready.2 ⟨m2, ops[i], Array.getElem?_eq_getElem m1, fun e hee hb => ?_⟩
          have hback : e.on < i := by
            have := List.all_eq_true.1 he (ops[i], i) (by rw [List.mem_zipIdx_iff_getElem?]; simp [m1])
            have := Array.all_eq_true_iff_forall_mem.1 this e hee
            simpa [hb] using this
          refine lst _ (by omega) ?_
          cases hx : listed.getD e.on true with
          | true => rfl
          | false =>
            exfalso
            have hm2 : e.on ∈ unl ops listed := mem_unl.2 ⟨by omega, hx⟩
            have hso := unl_sorted ops listed
            rw [hu] at hm2 hso
            rw [List.pairwise_cons] at hso
            rcases List.mem_cons.1 hm2 with h | h
            · omega
            · have := hso.1 _ h; omega
        rw [hr] at this; cases this
    · obtain ⟨m2, o, ho, hall⟩ := mem_ready.1 hi
      have m1 : i < ops.size := (Array.getElem?_eq_some_iff.1 ho).1
      obtain ⟨l1, l2, hu⟩ := List.append_of_mem (mem_unl.2 ⟨m1, m2⟩)
      have hbefore : ∀ j, ((Region.before ops).getD i 0).testBit j = true → listed.getD j false = true := by
        intro j hj
        obtain ⟨o', ho', e, h1, h2, h3⟩ := before_spec ops i j hj
        rw [ho] at ho'; cases ho'
        rcases h3 with rfl | h3
        · exact hall e h1 h2
        · exact hdown _ _ (hall e h1 h2) h3
      have hso := unl_sorted ops listed
      rw [hu, List.pairwise_append] at hso
      rw [hu] at hs
      have hs' := bubble l1 σ (fun j hj a b hja hib => by
        have hji : j < i := hso.2.2 j hj i (by simp)
        have hil : i < (needQuiet (Region.before ops) cs).length := (List.getElem?_eq_some_iff.1 hib).1
        have := List.all_eq_true.1 hp i (List.mem_range.2 hil)
        have := List.all_eq_true.1 this j (List.mem_range.2 hji)
        rw [Bool.or_eq_true] at this
        rcases this with h | h
        · exfalso
          have hm : j ∈ unl ops listed := by rw [hu]; simp [hj]
          exact unlst j (mem_unl.1 hm).2 (hbefore j h)
        · rw [hja, hib] at h; exact h) hs
      rw [stepI_cons] at hs'
      obtain ⟨c, q, σ1, g1, g2, g3, g4⟩ := hs'
      have hci := needQuiet_get _ _ _ _ g1
      obtain ⟨c', hc1, hc2⟩ := hget i o (by simpa using ho)
      rw [hci] at hc1
      cases hc1
      rw [Nat.zero_add] at hc2
      unfold wpOp
      simp only [ho]
      refine stepOp_ok R hcb hc2 g2 (fun a' w' ω' μ' R' hm => ?_)
      have hset := unl_set (ops := ops) (listed := listed) (by omega) hu
      refine ih (listed.setIfInBounds i true) (by simpa using hsz) (fun i' j hi' hj => ?_) ?_ R' (by rw [hset]; exact g4) (hQ.at hm)
      · by_cases hii : i = i'
        · subst hii; exact getD_set_true (hbefore j hj)
        · rw [getD_set_ne false hii] at hi'
          exact getD_set_true (hdown i' j hi' hj)
      · rw [hset]
        rw [hu] at hl
        simp at hl ⊢
        omega
theorem drawOk (hm : P.follows .mixedOrders = true) (cb : CB) (hcb : CBok P ren cb) : DrawOk P ren cb := by
  intro h id ops cs hc hp nb we ωe U O σ σ' a w ω μ R hs Q hQ
  rw [Bool.and_eq_true] at hp
  refine wp_region_any hm ?_
  have R' := (R.sameHeap (w' := { w with drawn := w.drawn + 1 }) rfl rfl rfl rfl).2
  have e : unl ops (Array.replicate ops.size false) = List.range ops.size := by
    unfold unl
    rw [List.filter_eq_self]
    intro i hi
    have hi := List.mem_range.1 hi
    simp [Array.getD_eq_getD_getElem?, hi]
  have hlen : (needQuiet (Region.before ops) cs).length = ops.size := by rw [needQuiet_len, (cOps_get _ _ _ hc).1]; simp
  refine any_ok hcb hc hp.1 hp.2 ops.size _ (by simp) (fun i j hi => ?_) (by rw [e]; simp) R' ?_ hQ
  · exfalso
    rw [Array.getD_eq_getD_getElem?, Array.getElem?_replicate] at hi
    split at hi <;> simp at hi
  · rw [e, List.range_eq_range', ← hlen, ← stepD_stepI _ _ 0 σ (fun i => by rw [Nat.zero_add])]
    exact hs
end
end Go.Proofs.Ythplooifbkopgaa
