/- Whatever the machine with the rest handed along answers, the machine answers. -/
import Derived.Test.YthplooifbkopgaaC1
namespace Go.Proofs.Ythplooifbkopgaa
set_option linter.unusedVariables false
set_option linter.unusedSimpArgs false
section
variable {β : Type} {r : β}
theorem chk_inv {p : Prop} [Decidable p] {k : Option β} (h : chk p k = some r) : p ∧ k = some r := by
  unfold chk at h; split at h
  · exact ⟨‹_›, h⟩
  · cases h
theorem ifb_inv {t : Bool} {a b : Option β} (h : ifb t a b = some r) : (t = true ∧ a = some r) ∨ (t = false ∧ b = some r) := by
  cases t
  · exact .inr ⟨rfl, h⟩
  · exact .inl ⟨rfl, h⟩
theorem aI_inv {kd : IntKind} {v : V} {k : Int → Option β} (h : aI kd v k = some r) : ∃ n, v = .sc (.int kd n) ∧ k n = some r := by
  unfold aI at h; split at h
  · split at h
    · rename_i e; subst e; exact ⟨_, rfl, h⟩
    · cases h
  · cases h
theorem anyI_inv {v : V} {k : Int → Option β} (h : anyI v k = some r) : ∃ kd n, v = .sc (.int kd n) ∧ k n = some r := by
  unfold anyI at h; split at h
  · exact ⟨_, _, rfl, h⟩
  · cases h
theorem aB_inv {v : V} {k : Bool → Option β} (h : aB v k = some r) : ∃ b, v = .sc (.bool b) ∧ k b = some r := by
  unfold aB at h; split at h
  · exact ⟨_, rfl, h⟩
  · cases h
theorem aS_inv {v : V} {k : ByteArray → Option β} (h : aS v k = some r) : ∃ s, v = .sc (.string s) ∧ k s = some r := by
  unfold aS at h; split at h
  · exact ⟨_, rfl, h⟩
  · cases h
theorem aL_inv {sz : Nat} {v : V} {k : List (List V) → Option β} (h : aL sz v k = some r) : ∃ es, v = .sl sz es ∧ k es = some r := by
  unfold aL at h; split at h
  · split at h
    · rename_i e; subst e; exact ⟨_, rfl, h⟩
    · cases h
  · cases h
theorem aLd_inv {sz : Nat} {v : V} {k : List (List V) → Option β} (h : aLd sz v k = some r) : ∃ es, v.dem = .sl sz es ∧ k es = some r := by
  unfold aLd at h; split at h
  · split at h
    · rename_i e; subst e; exact ⟨_, rfl, h⟩
    · cases h
  · split at h
    · rename_i e; subst e; exact ⟨_, rfl, h⟩
    · cases h
  · cases h
theorem aA_inv {n : Nat} {v : V} {k : List V → Option β} (h : aA n v k = some r) : ∃ cs, v = .agg cs ∧ cs.length = n ∧ k cs = some r := by
  unfold aA at h; split at h
  · split at h
    · exact ⟨_, rfl, ‹_›, h⟩
    · cases h
  · cases h
theorem aG_inv {v : V} {k : List V → Option β} (h : aG v k = some r) : ∃ cs, v = .agg cs ∧ k cs = some r := by
  unfold aG at h; split at h
  · exact ⟨_, rfl, h⟩
  · cases h
theorem aGs_inv {sz : Nat} {v : V} {k : List (List V) → Option β} (h : aGs sz v k = some r) : ∃ es, v = .gs sz es ∧ k es = some r := by
  unfold aGs at h; split at h
  · split at h
    · rename_i e; subst e; exact ⟨_, rfl, h⟩
    · cases h
  · cases h
theorem aM_inv {id : Nat} {v : V} {k : Option β} (h : aM id v k = some r) : v = .mp id ∧ k = some r := by
  unfold aM at h
  split at h
  · split at h
    · rename_i e; subst e; exact ⟨rfl, h⟩
    · cases h
  · cases h
theorem aO_inv {id sz : Nat} {v : V} {k : Nat → Nat → Option β} (h : aO id sz v k = some r) : ∃ o l, v = .own id o l sz ∧ k o l = some r := by
  unfold aO at h
  split at h
  · split at h
    · rename_i hc; obtain ⟨rfl, rfl⟩ := hc; exact ⟨_, _, rfl, h⟩
    · cases h
  · cases h
theorem aO0_inv {id sz : Nat} {v : V} {k : Nat → Option β} (h : aO0 id sz v k = some r) : ∃ l, v = .own id 0 l sz ∧ k l = some r := by
  unfold aO0 at h
  split at h
  · split at h
    · rename_i hc; obtain ⟨rfl, rfl, rfl⟩ := hc; exact ⟨_, rfl, h⟩
    · cases h
  · cases h
theorem aP_inv {id off : Nat} {v : V} {k : Option β} (h : aP id off v k = some r) : v = .ptr id off ∧ k = some r := by
  unfold aP at h; split at h
  · split at h
    · rename_i e; rw [e.1, e.2]; exact ⟨rfl, h⟩
    · cases h
  · cases h
theorem aFp_inv {n : Nat} {v : V} {k : List V → Option β} (h : aFp n v k = some r) : ∃ cs, v = .fp n cs ∧ k cs = some r := by
  unfold aFp at h; split at h
  · split at h
    · rename_i e; subst e; exact ⟨_, rfl, h⟩
    · cases h
  · cases h
theorem aV_inv {u : Value} {v : V} {k : Option β} (h : aV u v k = some r) : v = .sc u ∧ k = some r := by
  unfold aV at h; split at h
  · exact ⟨rfl, h⟩
  · exact ⟨rfl, h⟩
  · exact ⟨rfl, h⟩
  · cases h
theorem capsAre_eq : ∀ {caps : List (Nat × Nat)} {cs : List V}, capsAre caps cs = true → cs = caps.map (fun p => .ptr p.1 p.2)
  | [], [], _ => rfl
  | (i, o) :: r, .ptr a b :: s, h => by
    simp only [capsAre, Bool.and_eq_true] at h
    rw [Nat.eq_of_beq_eq_true h.1, Nat.eq_of_beq_eq_true h.2.1, capsAre_eq h.2.2]
    rfl
  | [], _ :: _, h => by cases h
  | _ :: _, [], h => by cases h
  | (i, o) :: _, .sc _ :: _, h => by cases h
  | (i, o) :: _, .agg _ :: _, h => by cases h
  | (i, o) :: _, .tup _ :: _, h => by cases h
  | (i, o) :: _, .sl _ _ :: _, h => by cases h
  | (i, o) :: _, .gs _ _ :: _, h => by cases h
  | (i, o) :: _, .own _ _ _ _ :: _, h => by cases h
  | (i, o) :: _, .fp _ _ :: _, h => by cases h
  | (i, o) :: _, .fn _ _ :: _, h => by cases h
  | (i, o) :: _, .bx _ _ :: _, h => by cases h
  | (i, o) :: _, .fr _ _ :: _, h => by cases h
  | (i, o) :: _, .junk :: _, h => by cases h
theorem aF_inv {f : Nat} {caps : List (Nat × Nat)} {v : V} {k : Option β} (h : aF f caps v k = some r) : v = .fn f (caps.map (fun p => .ptr p.1 p.2)) ∧ k = some r := by
  unfold aF at h; split at h
  · split at h
    · rename_i e
      simp only [Bool.and_eq_true] at e
      rw [Nat.eq_of_beq_eq_true e.1, capsAre_eq e.2]
      exact ⟨rfl, h⟩
    · cases h
  · cases h
theorem cellAt_inv {cs : List V} {off : Nat} {k : V → Option β} (h : cellAt cs off k = some r) : ∃ v, cs[off]? = some v ∧ k v = some r := by
  unfold cellAt at h; split at h
  · exact ⟨_, ‹_›, h⟩
  · cases h
theorem idx_inv {es : List (List V)} {j : Int} {k : List V → Option β} (h : idx es j k = some r) : 0 ≤ j ∧ ∃ c, es[j.toNat]? = some c ∧ k c = some r := by
  unfold idx at h; split at h
  · split at h
    · exact ⟨‹_›, _, ‹_›, h⟩
    · cases h
  · cases h
theorem eqC_inv {n : Nat} {a b : List V} {k : Bool → Option β} (h : eqC n a b k = some r) : (a.length = n ∧ b.length = n) ∧ ∃ t, eqCells a b = some t ∧ k t = some r := by
  unfold eqC at h; split at h
  · split at h
    · exact ⟨‹_›, _, ‹_›, h⟩
    · cases h
  · cases h
theorem strC_inv {es : List (List V)} {k : ByteArray → Option β} (h : strC es k = some r) : ∃ l, toBytes es = some l ∧ k ⟨l.toArray⟩ = some r := by
  unfold strC at h; split at h
  · exact ⟨_, ‹_›, h⟩
  · cases h
theorem plainsC_inv {cs : List V} {k : List V → Option β} (h : plainsC cs k = some r) : ∃ vs, cs.mapM V.plain = some vs ∧ k vs = some r := by
  unfold plainsC at h; split at h
  · exact ⟨_, ‹_›, h⟩
  · cases h
theorem refsC_inv {cs : List V} {k : List V → Option β} (h : refsC cs k = some r) : ∃ vs, cs.mapM V.refd = some vs ∧ k vs = some r := by
  unfold refsC at h
  split at h
  · exact ⟨_, ‹_›, h⟩
  · cases h
theorem onSt_inv {o : Option St} {κ : St → Option β} (h : onSt o κ = some r) : ∃ σ, o = some σ ∧ κ σ = some r := by
  unfold onSt at h; split at h
  · exact ⟨_, rfl, h⟩
  · cases h
theorem viewC_inv {b : List B} {v : V} {k : V → Option β} (h : viewC b v k = some r) : ∃ u, view b v = some u ∧ k u = some r := by
  unfold viewC at h; split at h
  · exact ⟨_, ‹_›, h⟩
  · cases h
theorem asc_inv {s : Sh} {v : V} {k : V → Option β} (h : asc s v k = some r) : k v = some r := by
  cases s with
  | any => exact h
  | int kd => obtain ⟨n, e, h'⟩ := aI_inv h; subst e; exact h'
  | bool => obtain ⟨n, e, h'⟩ := aB_inv h; subst e; exact h'
  | str => obtain ⟨n, e, h'⟩ := aS_inv h; subst e; exact h'
  | sl sz => obtain ⟨n, e, h'⟩ := aL_inv h; subst e; exact h'
  | row l => cases h
theorem ascD_inv {s : Sh} {v : V} {k : V → Option β} (h : ascD s v k = some r) : k v.dem = some r := by
  cases s with
  | any => exact h
  | int kd => obtain ⟨n, e, h'⟩ := aI_inv h; subst e; exact h'
  | bool => obtain ⟨n, e, h'⟩ := aB_inv h; subst e; exact h'
  | str => obtain ⟨n, e, h'⟩ := aS_inv h; subst e; exact h'
  | sl sz => obtain ⟨n, e, h⟩ := aLd_inv h; rw [e]; exact h
  | row l => cases h
theorem expand_inv : ∀ {ss : List Sh} {i : Nat} {cs : List V} {k : List V → Option β}, expand ss i cs k = some r → i + ss.length = cs.length → k (cs.drop i) = some r
  | [], i, cs, k, h, hl => by
    rw [List.drop_of_length_le (by simp at hl; omega)]
    exact h
  | s :: ss, i, cs, k, h, hl => by
    obtain ⟨v, e, h⟩ := cellAt_inv h
    have h := expand_inv (asc_inv h) (by simp at hl; omega)
    obtain ⟨hi, rfl⟩ := List.getElem?_eq_some_iff.1 e
    rw [List.drop_eq_getElem_cons hi]
    exact h
theorem expandC_inv {s : Sh} {cs : List V} {k : List V → Option β} (h : expandC s cs k = some r) : k cs = some r := by
  cases s with
  | row ss =>
    obtain ⟨hl, h⟩ := chk_inv h
    have := expand_inv h (by omega)
    simpa using this
  | _ => exact h
theorem cellK_inv {s : Sh} {cs : List V} {off : Nat} {k : V → Option β} (h : cellK s cs off k = some r) : ∃ v, cs[off]? = some v ∧ k v = some r := by
  obtain ⟨v, e, h⟩ := cellAt_inv h; exact ⟨v, e, asc_inv h⟩
theorem cellKD_inv {s : Sh} {cs : List V} {off : Nat} {k : V → Option β} (h : cellKD s cs off k = some r) : ∃ v, cs[off]? = some v ∧ k v.dem = some r := by
  obtain ⟨v, e, h⟩ := cellAt_inv h; exact ⟨v, e, ascD_inv h⟩
theorem ltV_inv {v : Value} {k : Value → Option β} (h : ltV v k = some r) : k v = some r := by
  cases v <;> exact h
theorem pickV_inv {t : Bool} {a b : V} {k : V → Option β} (h : pickV t a b k = some r) : k (if t then a else b) = some r := by
  unfold pickV at h
  split at h
  · cases t <;> exact h
  · split at h
    · rename_i e; subst e; cases t <;> exact h
    · cases h
  · rcases ifb_inv h with ⟨rfl, h⟩ | ⟨rfl, h⟩ <;> exact h
theorem fillC_inv {σ : St} : ∀ {ps : List (Nat × Nat × Src)} {cs : List V} {k : List V → Option β}, fillC σ ps cs k = some r → ∃ cs', fillParts σ ps cs = some cs' ∧ k cs' = some r
  | [], cs, k, h => ⟨cs, rfl, h⟩
  | (off, n, x) :: ps, cs, k, h => by
    unfold fillC at h
    split at h
    · rename_i v hv
      obtain ⟨hc, h⟩ := chk_inv h
      obtain ⟨cs', e, h⟩ := fillC_inv h
      refine ⟨cs', ?_, h⟩
      simp only [fillParts, hv, Option.bind_eq_bind, Option.bind_some, hc, and_self, if_true]
      exact e
    · cases h
theorem fillRC_inv {sh : Nat → Sh} {σ : St} : ∀ {ps : List (Nat × Nat × Src)} {cs : List V} {k : List V → Option β}, fillRC sh σ ps cs k = some r → ∃ cs', fillRefs σ ps cs = some cs' ∧ k cs' = some r
  | [], cs, k, h => ⟨cs, rfl, h⟩
  | (off, n, x) :: ps, cs, k, h => by
    unfold fillRC at h
    split at h
    · rename_i us hx
      have h := expandC_inv h
      obtain ⟨hc, h⟩ := chk_inv h
      obtain ⟨cs', e, h⟩ := fillRC_inv h
      refine ⟨cs', ?_, h⟩
      simp only [fillRefs, hx, V.refd, V.plain, V.cells, Option.bind_eq_bind, Option.bind_some, hc, and_self, if_true]
      exact e
    · split at h
      · rename_i v hv
        obtain ⟨hc, h⟩ := chk_inv h
        obtain ⟨cs', e, h⟩ := fillRC_inv h
        refine ⟨cs', ?_, h⟩
        simp only [fillRefs, hv, Option.bind_eq_bind, Option.bind_some, hc, and_self, if_true]
        exact e
      · cases h
theorem binC_inv {op : BinOp} {x y : Value} {k : Value → Option β} (h : binC op x y k = some r) : ∃ z, binSc op x y = some z ∧ k z = some r := by
  unfold binC at h
  split at h
  · obtain ⟨hc, h⟩ := chk_inv h
    exact ⟨_, by simp only [binSc]; rw [if_neg (by omega)], h⟩
  · obtain ⟨hc, h⟩ := chk_inv h
    exact ⟨_, by simp only [binSc]; rw [if_neg (by omega)], h⟩
  · split at h
    · rename_i e; subst e
      obtain ⟨hc, h⟩ := chk_inv h
      exact ⟨_, by simp [binSc, hc], h⟩
    · cases h
  · split at h
    · rename_i e; subst e
      obtain ⟨hc, h⟩ := chk_inv h
      exact ⟨_, by simp [binSc, hc], h⟩
    · cases h
  · split at h
    · exact ⟨_, ‹_›, h⟩
    · cases h
theorem boundC_inv {σ : St} {x : Option Src} {dflt most : Nat} {k : Nat → Option β} (h : boundC σ x dflt most k = some r) : ∃ n, bound σ x dflt most = some n ∧ k n = some r := by
  unfold boundC at h
  split at h
  · exact ⟨_, rfl, h⟩
  · obtain ⟨kd, n, e, h⟩ := anyI_inv h
    obtain ⟨hc, h⟩ := chk_inv h
    exact ⟨_, by simp [bound, e, V.int?, hc], h⟩
theorem boundsC_inv {σ : St} {len : Nat} {lo hi mx : Option Src} {k : Nat → Nat → Nat → Option β} (h : boundsC σ len lo hi mx k = some r) : ∃ l hh m, bounds σ len lo hi mx = some (l, hh, m) ∧ k l hh m = some r := by
  obtain ⟨m, e1, h⟩ := boundC_inv h
  obtain ⟨hh, e2, h⟩ := boundC_inv h
  obtain ⟨l, e3, h⟩ := boundC_inv h
  exact ⟨l, hh, m, by simp [bounds, e1, e2, e3], h⟩
end
def CBCok (c : CBC) (cb : CB) : Prop := ∀ (β : Type) (f : Nat) (args : List V) (bor : Bor) (k : V → Bor → Option β) (r : β), c β f args bor k = some r → ∃ v b, cb f args bor = some (v, b) ∧ k v b = some r
section
variable {β : Type} {r : β} {c : CBC} {cb : CB} {sh : Nat → Sh} {nb L : Nat}
theorem putRC_ok {σ : St} {dst : Option Nat} {pin : Bool} {v : V} {κ : St → Option β} (h : putRC nb σ dst pin v κ = some r) : ∃ σ', σ.putR nb dst pin v = some σ' ∧ κ σ' = some r := by
  cases v with
  | fr sz es =>
    cases pin with
    | true =>
      simp only [putRC] at h
      obtain ⟨σ', e, h⟩ := onSt_inv h
      exact ⟨σ', by simp only [St.putR]; exact e, h⟩
    | false => exact ⟨_, by simp only [St.putR, St.putG, Bool.false_eq_true, if_false], h⟩
  | _ => exact onSt_inv h
theorem freezeC_eq (b : List B) (id : Nat) (κ : List B → Option β) : freezeC b id κ = κ (freeze b id) := by
  unfold freezeC freeze
  split
  · rename_i cs h
    cases cs with
    | nil => simp [ifb, h]
    | cons c cs => simp [ifb, h]
  · rename_i h
    split
    · rename_i c cs h2; exact absurd h2 (h _)
    · rfl
theorem frozenC_eq (σ : St) : ∀ (srcs : List (Src × Nat)) (b : List B) (κ : List B → Option β), frozenC σ srcs b κ = κ (frozenBy σ srcs b)
  | [], b, κ => rfl
  | s :: rest, b, κ => by
    unfold frozenC frozenBy
    by_cases h : 2 ≤ s.2
    · rw [if_pos h]; simp only [h, decide_true]; exact frozenC_eq σ rest b κ
    · rw [if_neg h]; simp only [h, decide_false]
      cases ownId (s.1.get σ) with
      | none => exact frozenC_eq σ rest b κ
      | some id => simp only [freezeC_eq]; exact frozenC_eq σ rest _ κ
theorem fzAllC_inv (nb : Nat) {r : β} : ∀ (fz : List Nat) (σ : St) (κ : St → Option β), fzAllC nb fz σ κ = some r → κ (fzAll nb fz σ) = some r
  | [], σ, κ, h => h
  | d :: fz, σ, κ, h => by
    unfold fzAllC at h
    unfold fzAll
    split at h
    · rename_i cs hb
      obtain ⟨hl, h⟩ := chk_inv h
      have e : freeze σ.b (nb + d) = σ.b.set (nb + d) (.fz cs) := by
        cases cs with
        | nil => simp at hl
        | cons c cs => unfold freeze; rw [hb]
      rw [e]; exact fzAllC_inv nb fz _ κ h
    · rename_i hb
      have e : freeze σ.b (nb + d) = σ.b := by
        unfold freeze
        split
        · rename_i c cs h2; exact absurd h2 (hb _)
        · rfl
      rw [e]; exact fzAllC_inv nb fz _ κ h
theorem doCallC_ok (hc : CBCok c cb) {σ : St} {dst : Option Nat} {pin : Bool} {f : Nat} {args : List V} {srcs : List (Src × Nat)} {xs : List Nat} {κ : St → Option β} (h : doCallC c nb σ dst pin f args srcs xs κ = some r) : ∃ σ', doCall cb nb σ dst pin f args srcs xs = some σ' ∧ κ σ' = some r := by
  unfold doCallC at h
  rw [frozenC_eq] at h
  simp only at h
  split at h
  · cases h
  · rename_i bor hb
    obtain ⟨v, b, e, h⟩ := hc _ _ _ _ _ _ h
    obtain ⟨hl, h⟩ := chk_inv h
    split at h
    · rename_i ht
      obtain ⟨σ', e2, h⟩ := putRC_ok h
      refine ⟨σ', ?_, h⟩
      simp only [Bool.and_eq_true, decide_eq_true_eq] at ht
      obtain ⟨t1, t2, t3, t4, t5, t6, t7, t8⟩ := ht
      unfold doCall
      simp only [hb, Option.bind_eq_bind, Option.bind_some, e]
      rw [if_pos ⟨hl, t1, t2, t3, t4, t5, t6, t7, t8⟩]
      exact e2
    · cases h
theorem dflt_ok {σ : St} {dst : Option Nat} {pin : Bool} {k : K} {κ : St → Option β} (hk : stepK (fun _ _ _ => none) nb σ dst pin k = stepK cb nb σ dst pin k) (h : onSt (stepK (fun _ _ _ => none) nb σ dst pin k) κ = some r) : ∃ σ', stepK cb nb σ dst pin k = some σ' ∧ κ σ' = some r := by
  obtain ⟨σ', e, h⟩ := onSt_inv h
  exact ⟨σ', by rw [← hk]; exact e, h⟩
theorem St.set_same {σ : St} {j : Nat} {v : V} (h : σ.t[j]? = some v) : ({ σ with t := σ.t.set j v } : St) = σ := by
  have : σ.t.set j v = σ.t := by
    apply List.ext_getElem?
    intro i
    rw [List.getElem?_set]
    split
    · rename_i e; subst e
      split
      · exact h.symm
      · rename_i hlt
        rw [List.getElem?_eq_none (by omega)]
    · rfl
  rw [this]
theorem stepC_ok (hc : CBCok c cb) {σ : St} {dst : Option Nat} {pin : Bool} {k : K} {κ : St → Option β} (h : stepC sh c nb σ dst pin k κ = some r) : ∃ σ', stepK cb nb σ dst pin k = some σ' ∧ κ σ' = some r := by
  cases k with
  | pick c a b =>
    obtain ⟨t, e, h⟩ := aB_inv h
    exact ⟨_, by simp only [stepK, pureK, e, V.bool?]; rfl, by have := pickV_inv h; cases t <;> exact this⟩
  | build zero parts =>
    obtain ⟨cs, e, h⟩ := fillC_inv h
    exact ⟨_, by simp only [stepK, pureK, e]; rfl, h⟩
  | buildSt zero parts =>
    obtain ⟨cs, e, h⟩ := fillRC_inv h
    exact ⟨_, by simp only [stepK, pureK, e]; rfl, h⟩
  | box p x =>
    simp only [stepC] at h
    split at h
    · rename_i cs hx
      cases p with
      | true => cases h
      | false =>
        obtain ⟨σ', e, h⟩ := onSt_inv h
        exact ⟨σ', by simp only [stepK, hx, Bool.false_eq_true, if_false]; exact e, h⟩
    · rename_i hx
      split at h
      · rename_i v hv
        have hk : ∀ p, stepK cb nb σ dst pin (.box p x) = σ.newB nb dst (.live p v.cells) (fun id => .ptr id 0) := by
          intro p
          cases hxx : x.get σ with
          | st cs => exact absurd hxx (hx cs)
          | _ => rw [hxx] at hv; simp only [stepK, hxx, hv]
        cases p with
        | true =>
          obtain ⟨σ', e, h⟩ := onSt_inv h
          exact ⟨σ', by rw [hk]; exact e, h⟩
        | false =>
          obtain ⟨σ', e, h⟩ := onSt_inv (expandC_inv h)
          exact ⟨σ', by rw [hk]; exact e, h⟩
      · cases h
  | nilT neg x =>
    simp only [stepC] at h
    split at h
    · rename_i sz es hx
      split at h
      · rename_i t
        rcases ifb_inv h with ⟨hq, h⟩ | ⟨hq, h⟩
        · have he : es = [] := by simpa using hq
          subst he
          have hget : ∃ v, σ.t[t]? = some v ∧ Src.get σ (.tmp t) = v ∧ nilAs v = v := by
            simp only [Src.get, List.getD_eq_getElem?_getD] at hx ⊢
            cases ht : σ.t[t]? with
            | none => rw [ht] at hx; simp [V.dem] at hx
            | some v =>
              rw [ht] at hx
              refine ⟨v, rfl, rfl, ?_⟩
              have hx : v.dem = .sl sz [] := hx
              match v, hx with
              | .gs a es, hx =>
                have : es = [] := by simp [V.dem] at hx; exact hx.2
                rw [this]; rfl
              | .sl a es, hx =>
                have : es = [] := by simp [V.dem] at hx; exact hx.2
                rw [this]; rfl
              | .tup [], hx => rfl
              | .tup (_ :: _), hx => rfl
              | .sc _, hx => rfl
              | .agg _, hx => rfl
              | .own _ _ _ _, hx => rfl
              | .ptr _ _, hx => rfl
              | .fp _ _, hx => rfl
              | .fn _ _, hx => rfl
              | .bx _ _, hx => rfl
              | .fr _ _, hx => rfl
              | .ub, hx => rfl
              | .junk, hx => rfl
          obtain ⟨v, g1, g2, g3⟩ := hget
          simp only [lt] at h
          rw [g2, g3, St.set_same g1] at h
          exact ⟨_, by simp only [stepK, pureK, hx]; rfl, h⟩
        · exact ⟨_, by simp only [stepK, pureK, hx, hq]; rfl, h⟩
      · cases h
    · cases h
  | un op x =>
    simp only [stepC] at h
    split at h
    · rename_i a ha
      split at h
      · rename_i z hz
        exact ⟨_, by simp only [stepK, pureK, ha, hz]; rfl, ltV_inv h⟩
      · cases h
    · cases h
  | conv k x =>
    obtain ⟨kd, n, e, h⟩ := anyI_inv h
    exact ⟨_, by simp only [stepK, pureK, e, V.int?]; rfl, h⟩
  | mm isMax x y =>
    simp only [stepC] at h
    split at h
    · rename_i k a k' b ha hb
      exact ⟨_, by simp only [stepK, pureK, ha, hb]; rfl, h⟩
    · cases h
  | copy sz d s =>
    simp only [stepC] at h
    split at h
    · rename_i id off len sz1 hd
      obtain ⟨u, e, h⟩ := viewC_inv h
      split at h
      · rename_i sz2 es
        split at h
        · rename_i cs hb
          obtain ⟨hc, h⟩ := chk_inv h
          exact ⟨_, by simp only [stepK, hd, e, hb]; rw [if_pos hc], h⟩
        · cases h
      · cases h
    · cases h
  | buildSlice sz n zero parts =>
    obtain ⟨cs, e, h⟩ := fillC_inv h
    obtain ⟨σ', e2, h⟩ := onSt_inv h
    exact ⟨σ', by simp only [stepK, e]; exact e2, h⟩
  | bin op x y =>
    simp only [stepC] at h
    split at h
    · rename_i a b ha hb
      obtain ⟨z, e, h⟩ := binC_inv h
      exact ⟨_, by simp only [stepK, pureK, ha, hb, e]; rfl, ltV_inv h⟩
    · cases h
  | eqAgg neg n x y =>
    simp only [stepC] at h
    split at h
    · rename_i a b ha hb
      obtain ⟨hl, t, e, h⟩ := eqC_inv h
      exact ⟨_, by simp only [stepK, pureK, ha, hb, hl, and_self, if_true, e]; rfl, h⟩
    · cases h
  | toStr x =>
    obtain ⟨u, e, h⟩ := viewC_inv h
    split at h
    · obtain ⟨l, e2, h⟩ := strC_inv h
      exact ⟨_, by simp only [stepK, pureK, e, e2]; rfl, h⟩
    · cases h
  | cmpB x y =>
    obtain ⟨u, e, h⟩ := viewC_inv h
    obtain ⟨v, e', h⟩ := viewC_inv h
    split at h
    · unfold cmpC at h
      split at h
      · rename_i a ha
        split at h
        · rename_i b hb
          exact ⟨_, by simp only [stepK, pureK, e, e', ha, hb]; rfl, h⟩
        · cases h
      · cases h
    · cases h
  | makeSlice sz bytes zero l c =>
    obtain ⟨k1, l', e1, h⟩ := anyI_inv h
    obtain ⟨k2, c', e2, h⟩ := anyI_inv h
    cases pin with
    | true =>
      obtain ⟨hc, h⟩ := chk_inv h
      obtain ⟨σ', e3, h⟩ := onSt_inv h
      exact ⟨σ', by simp only [stepK, e1, e2, V.int?]; rw [if_pos ⟨hc.1, hc.2.1, hc.2.2.1, hc.2.2.2.1, fun _ => hc.2.2.2.2⟩]; exact e3, h⟩
    | false =>
      obtain ⟨hc, h⟩ := chk_inv h
      obtain ⟨σ', e3, h⟩ := onSt_inv h
      exact ⟨σ', by simp only [stepK, e1, e2, V.int?]; rw [if_pos ⟨hc.1, hc.2.1, hc.2.2.1, hc.2.2.2, fun q => by cases q⟩]; exact e3, h⟩
  | sliceA n sz x lo hi mx =>
    obtain ⟨l, hh, m, e, h⟩ := boundsC_inv h
    split at h
    · rename_i id off hx
      split at h
      · rename_i p cs hb
        obtain ⟨hl, h⟩ := chk_inv h
        refine ⟨_, by simp only [stepK, pureK, e, Option.bind_eq_bind, Option.bind_some, hx, hb, hl, if_true, Option.map_some]; rfl, ?_⟩
        rcases ifb_inv h with ⟨q, h⟩ | ⟨q, h⟩
        · rw [if_pos (by simpa using q)]; exact h
        · rw [if_neg (by simpa using q)]; exact h
      · rename_i cs hb
        obtain ⟨hl, h⟩ := chk_inv h
        refine ⟨_, by simp only [stepK, pureK, e, Option.bind_eq_bind, Option.bind_some, hx, hb, hl, if_true, Option.map_some]; rfl, ?_⟩
        rcases ifb_inv h with ⟨q, h⟩ | ⟨q, h⟩
        · rw [if_pos (by simpa using q)]; exact h
        · rw [if_neg (by simpa using q)]; exact h
      · cases h
    · rename_i q cs hx
      obtain ⟨hl, h⟩ := chk_inv h
      exact ⟨_, by simp only [stepK, pureK, e, Option.bind_eq_bind, Option.bind_some, hx, hl, if_true, Option.map_some], h⟩
    · cases h
  | sliceS sz x lo hi mx =>
    simp only [stepC] at h
    split at h
    · rename_i sz' es hx
      obtain ⟨l, hh, m, e, h⟩ := boundsC_inv h
      obtain ⟨hs, h⟩ := chk_inv h
      cases mx with
      | none => exact ⟨σ.put dst (.sl sz ((es.drop l).take (hh - l))), by simp [stepK, pureK, e, hx, hs], h⟩
      | some s =>
        refine ⟨_, by simp only [stepK, pureK, e, hx, hs, Option.bind_eq_bind, Option.bind_some, if_true, Option.map_some]; rfl, ?_⟩
        rcases ifb_inv h with ⟨q, h⟩ | ⟨q, h⟩
        · rw [if_pos ⟨by simp, by simpa using q⟩]; rw [← hs]; exact h
        · rw [if_neg (by simpa using q)]; rw [← hs]; exact h
    · rename_i id off len sz' hx
      obtain ⟨l, hh, m, e, h⟩ := boundsC_inv h
      obtain ⟨hs, h2⟩ := chk_inv h
      subst hs
      cases mx with
      | none => exact ⟨_, by simp only [stepK, pureK, e, hx, Option.bind_eq_bind, Option.bind_some, if_true, Option.map_some, Option.isSome_none, Bool.false_eq_true, if_false], h2⟩
      | some s =>
        refine ⟨_, by simp only [stepK, pureK, e, hx, Option.bind_eq_bind, Option.bind_some, if_true, Option.map_some, Option.isSome_some]; rfl, ?_⟩
        rcases ifb_inv h2 with ⟨q, h⟩ | ⟨q, h⟩
        · rw [if_pos (by simpa using q)]; exact h
        · rw [if_neg (by simpa using q)]; exact h
    · cases h
  | field agg o n x =>
    simp only [stepC] at h
    split at h
    · rename_i cs hx
      cases agg with
      | true => exact ⟨_, by simp [stepK, pureK, hx], h⟩
      | false =>
        obtain ⟨v, e, h⟩ := cellK_inv h
        exact ⟨_, by simp [stepK, pureK, hx, e], h⟩
    · rename_i cs hx
      cases agg with
      | true => cases h
      | false =>
        simp only at h
        split at h
        · rename_i v e
          exact ⟨_, by simp [stepK, pureK, hx, e], h⟩
        · cases h
    · cases h
  | indexAddrA len sz x i =>
    obtain ⟨k1, j, e1, h⟩ := anyI_inv h
    obtain ⟨hj, h⟩ := chk_inv h
    split at h
    · rename_i id off hx
      exact ⟨_, by simp [stepK, pureK, hx, e1, V.int?, hj], h⟩
    · rename_i q cs hx
      obtain ⟨hl, h⟩ := chk_inv h
      exact ⟨_, by simp [stepK, pureK, hx, e1, V.int?, hj, hl], h⟩
    · cases h
  | indexAddrS sz x i =>
    obtain ⟨k1, j, e1, h⟩ := anyI_inv h
    split at h
    · rename_i sz' es hx
      obtain ⟨hs, h2⟩ := chk_inv h
      obtain ⟨hj, cc, e, h3⟩ := idx_inv h2
      subst hs
      exact ⟨_, by simp [stepK, pureK, hx, e1, V.int?, hj, e], h3⟩
    · rename_i id off len sz' hx
      obtain ⟨hs, h2⟩ := chk_inv h
      obtain ⟨hj, h3⟩ := chk_inv h2
      subst hs
      exact ⟨_, by simp [stepK, pureK, hx, e1, V.int?, hj], h3⟩
    · cases h
  | indexA agg len sz x i =>
    obtain ⟨k1, j, e1, h⟩ := anyI_inv h
    obtain ⟨hj, h⟩ := chk_inv h
    split at h
    · rename_i cs hx
      cases agg with
      | true => exact ⟨_, by simp [stepK, pureK, hx, e1, V.int?, hj], h⟩
      | false =>
        obtain ⟨v, e, h⟩ := cellK_inv h
        exact ⟨_, by simp [stepK, pureK, hx, e1, V.int?, hj, e], h⟩
    · cases h
  | load agg n a take =>
    simp only [stepC] at h
    split at h
    · rename_i id off hx
      split at h
      · rename_i p cs hb
        cases agg with
        | true =>
          obtain ⟨hl, h⟩ := chk_inv h
          cases p with
          | true => exact ⟨_, by simp [stepK, hx, hb, hl], h⟩
          | false =>
            cases take with
            | true =>
              obtain ⟨vs, e, h⟩ := refsC_inv h
              exact ⟨_, by simp [stepK, hx, hb, hl, e], h⟩
            | false =>
              obtain ⟨vs, e, h⟩ := plainsC_inv h
              exact ⟨_, by simp [stepK, hx, hb, hl, e], h⟩
        | false =>
          cases take with
          | true =>
            cases p with
            | true => cases h
            | false =>
              obtain ⟨v, e, h⟩ := cellAt_inv h
              exact ⟨_, by simp [stepK, hx, hb, e], h⟩
          | false =>
            obtain ⟨v, e, h⟩ := cellKD_inv h
            exact ⟨_, by simp [stepK, hx, hb, e], h⟩
      · rename_i cs hb
        cases agg with
        | true =>
          obtain ⟨hl, h⟩ := chk_inv h
          exact ⟨_, by simp [stepK, hx, hb, hl], h⟩
        | false =>
          obtain ⟨v, e, h⟩ := cellK_inv h
          exact ⟨_, by simp [stepK, hx, hb, e], h⟩
      · cases h
    · rename_i q cs hx
      cases agg with
      | true =>
        obtain ⟨hl, h⟩ := chk_inv h
        exact ⟨_, by simp [stepK, hx, hl], h⟩
      | false =>
        obtain ⟨v, e, h⟩ := cellK_inv h
        exact ⟨_, by simp [stepK, hx, e], h⟩
    · cases h
  | store n a x =>
    cases dst with
    | some d => cases h
    | none =>
    simp only [stepC] at h
    split at h
    · rename_i id off hx
      split at h
      · rename_i cs hb
        split at h
        · rename_i v hv
          obtain ⟨hl, h⟩ := chk_inv h
          exact ⟨_, by simp [stepK, hx, hb, hv, hl], h⟩
        · cases h
      · rename_i cs hb
        cases hxv : x.get σ <;> simp only [hxv] at h
        case agg us =>
          obtain ⟨hl, h⟩ := chk_inv (expandC_inv h)
          exact ⟨_, by simp [stepK, hx, hb, hxv, hl], h⟩
        case st us =>
          obtain ⟨hl, h⟩ := chk_inv h
          exact ⟨_, by simp [stepK, hx, hb, hxv, hl], h⟩
        case tup => cases h
        case bx => cases h
        case fr => cases h
        case junk => cases h
        all_goals
          obtain ⟨hl, h⟩ := chk_inv h
          exact ⟨_, by simp [stepK, hx, hb, hxv, hl], h⟩
      · cases h
    · cases h
  | append sz bytes s x =>
    simp only [stepC] at h
    split at h
    · rename_i sz1 es hs
      obtain ⟨u, e, h⟩ := viewC_inv h
      split at h
      · rename_i sz2 es2
        obtain ⟨⟨h1, h2⟩, h⟩ := chk_inv h
        obtain ⟨h3, h⟩ := chk_inv h
        cases pin with
        | true =>
          simp only at h
          split at h
          · obtain ⟨σ', e3, h⟩ := onSt_inv h
            refine ⟨σ', ?_, h⟩
            simp only [stepK, hs, e]
            rw [if_pos ⟨h1, .inl h2, h3⟩]
            exact e3
          · cases h
        | false =>
          refine ⟨_, ?_, h⟩
          simp only [stepK, hs, e]
          rw [if_pos ⟨h1, .inl h2, h3⟩]
          rfl
      · cases h
    · rename_i sz1 hs
      obtain ⟨u, e, h⟩ := viewC_inv h
      split at h
      · rename_i sz2 es2
        obtain ⟨⟨h1, h2⟩, h⟩ := chk_inv h
        obtain ⟨h3, h⟩ := chk_inv h
        obtain ⟨σ', e3, h⟩ := onSt_inv h
        refine ⟨σ', ?_, h⟩
        simp only [stepK, hs, e]
        rw [if_pos ⟨h1, .inl h2, h3⟩]
        exact e3
      · cases h
    · rename_i id off len sz1 hs
      obtain ⟨u, e, h⟩ := viewC_inv h
      split at h
      · rename_i sz2 es2
        split at h
        · rename_i cs hb
          obtain ⟨⟨h1, h2, h0⟩, h⟩ := chk_inv h
          obtain ⟨h3, h⟩ := chk_inv h
          obtain ⟨σ', e3, h⟩ := onSt_inv h
          refine ⟨σ', ?_, h⟩
          simp only [stepK, hs, e, hb]
          rw [if_pos ⟨h1, .inl h2, h0, h3⟩]
          exact e3
        · cases h
      · cases h
    · cases h
  | clear sz zero x =>
    simp only [stepC] at h
    split at h
    · rename_i id off len sz1 hx
      split at h
      · rename_i cs hb
        obtain ⟨h1, h⟩ := chk_inv h
        exact ⟨_, by simp only [stepK, hx, hb, h1, if_true], h⟩
      · cases h
    · cases h
  | appendZ sz bytes zero s x =>
    simp only [stepC] at h
    split at h
    · rename_i sz1 es hs
      obtain ⟨kd, n, e, h⟩ := anyI_inv h
      obtain ⟨h1, h⟩ := chk_inv h
      obtain ⟨h2, h⟩ := chk_inv h
      cases pin with
      | true => cases h
      | false =>
        refine ⟨_, ?_, h⟩
        simp only [stepK, hs, e, V.int?]
        rw [if_pos ⟨h1, h2⟩]
        rfl
    · cases h
  | extract x i =>
    simp only [stepC] at h
    split at h
    · rename_i vs hx
      split at h
      · rename_i v t hvi
        split at h
        · rename_i hall
          simp only [Bool.and_eq_true, decide_eq_true_eq] at hall
          split at h
          · rename_i hh
            obtain ⟨σ', e, h⟩ := putRC_ok h
            refine ⟨σ', ?_, h⟩
            simp only [stepK, hx, hvi]
            rw [if_pos hall, if_pos hh]
            exact e
          · rename_i hh
            split at h
            · cases h
            · refine ⟨_, ?_, h⟩
              simp only [stepK, hx, hvi]
              rw [if_pos hall, if_neg (by simp [hh])]
              rfl
        · cases h
      · cases h
    · cases h
  | call f args xs =>
    simp only [stepC] at h
    split at h
    · rename_i vs e
      obtain ⟨σ', e2, h⟩ := doCallC_ok hc h
      exact ⟨σ', by simp only [stepK, e]; exact e2, h⟩
    · cases h
  | callv f args xs =>
    simp only [stepC] at h
    split at h
    · rename_i g caps hg
      split at h
      · rename_i vs e
        obtain ⟨σ', e2, h⟩ := doCallC_ok hc h
        exact ⟨σ', by simp only [stepK, hg, e]; exact e2, h⟩
      · cases h
    · cases h
  | mlook kd ok zero x y =>
    simp only [stepC] at h
    split at h
    · rename_i id hx
      split at h
      · rename_i es hes
        unfold mAt at h
        split at h
        · rename_i hko
          split at h
          · rename_i q hq
            have h := asc_inv h
            cases ok with
            | true => exact ⟨_, by simp only [stepK, hx, hes, hko, if_true, hq, Option.bind_eq_bind, Option.bind_some, Option.pure_def], h⟩
            | false => exact ⟨_, by simp only [stepK, hx, hes, hko, if_true, hq, Option.bind_eq_bind, Option.bind_some, Option.pure_def, Bool.false_eq_true, if_false], h⟩
          · cases h
        · cases h
      · cases h
    · cases h
  | mput kd x y z =>
    simp only [stepC] at h
    split at h
    · cases h
    · split at h
      · rename_i id hx
        split at h
        · rename_i es hes
          split at h
          · rename_i v hv
            unfold mPut at h
            split at h
            · rename_i hko
              split at h
              · rename_i q hq
                refine ⟨_, ?_, h⟩
                simp only [stepK, Option.isSome_none, Bool.false_eq_true, if_false, hx, hes, hko, if_true, hv, hq, Option.bind_eq_bind, Option.bind_some, Option.pure_def]
              · cases h
            · cases h
          · cases h
        · cases h
      · cases h
  | _ => exact dflt_ok rfl h
theorem stepOpC_ok (hc : CBCok c cb) {σ : St} {o : COp} {κ : St → St → Option β} (h : stepOpC sh c nb σ o κ = some r) : ∃ σ', stepOp cb nb σ o = some σ' ∧ κ σ σ' = some r := by
  unfold stepOpC at h
  split at h
  · rename_i hg
    obtain ⟨σ', e, h⟩ := stepC_ok hc h
    exact ⟨σ', by simp only [stepOp, hg, guardOk]; exact e, h⟩
  · rename_i j want hg
    split at h
    · rename_i b hj
      cases want with
      | true =>
        rcases ifb_inv h with ⟨rfl, h⟩ | ⟨rfl, h⟩
        · simp only [lt] at h
          rw [St.set_same hj] at h
          obtain ⟨σ', e, h⟩ := stepC_ok hc h
          exact ⟨σ', by simp only [stepOp, hg, guardOk, hj]; exact e, h⟩
        · simp only [lt] at h
          rw [St.set_same hj] at h
          exact ⟨_, by simp only [stepOp, hg, guardOk, hj]; rfl, h⟩
      | false =>
        rcases ifb_inv h with ⟨rfl, h⟩ | ⟨rfl, h⟩
        · simp only [lt] at h
          rw [St.set_same hj] at h
          exact ⟨_, by simp only [stepOp, hg, guardOk, hj]; rfl, h⟩
        · simp only [lt] at h
          rw [St.set_same hj] at h
          obtain ⟨σ', e, h⟩ := stepC_ok hc h
          exact ⟨σ', by simp only [stepOp, hg, guardOk, hj]; exact e, h⟩
    · rename_i hj
      exact ⟨_, by simp only [stepOp, hg, guardOk, hj], h⟩
    · cases h
theorem stepOpsC_ok (hc : CBCok c cb) : ∀ {ops : List COp} {σ : St} {κ : St → Option β}, stepOpsC sh c nb ops σ κ = some r → ∃ σ', stepOps cb nb ops σ = some σ' ∧ κ σ' = some r
  | [], σ, κ, h => ⟨σ, rfl, h⟩
  | o :: ops, σ, κ, h => by
    obtain ⟨σ1, e1, h⟩ := stepOpC_ok hc h
    obtain ⟨σ2, e2, h⟩ := stepOpsC_ok hc h
    exact ⟨σ2, by simp only [stepOps, e1, Option.bind_some]; exact e2, h⟩
theorem stepDC_ok (hc : CBCok c cb) : ∀ {ops : List (COp × Fl)} {σ : St} {κ : St → Option β}, stepDC sh c nb ops σ κ = some r → ∃ σ', stepD cb nb ops σ = some σ' ∧ κ σ' = some r
  | [], σ, κ, h => ⟨σ, rfl, h⟩
  | (o, q) :: ops, σ, κ, h => by
    obtain ⟨σ1, e1, h⟩ := stepOpC_ok hc h
    split at h
    · rename_i hq
      obtain ⟨σ2, e2, h⟩ := stepDC_ok hc h
      exact ⟨σ2, by simp only [stepD, e1, hq, if_true]; exact e2, h⟩
    · cases h
theorem loopM_ok {body : St → KT β → Option β} {bodyN : St → Option (Ex × St)} {norm : St → St} (hb : ∀ σ K, body σ K = some r → ∃ ex σ', bodyN σ = some (ex, σ') ∧ K ex σ' = some r) : ∀ (n : Nat) (σ : St) (K : KT β), loopM body norm n (norm σ) K = some r → ∃ ex σ', loopN bodyN norm n σ = some (ex, σ') ∧ K ex σ' = some r
  | 0, σ, K, h => by cases h
  | n + 1, σ, K, h => by
    obtain ⟨ex, σ1, e, h⟩ := hb _ _ h
    cases ex with
    | normal =>
      obtain ⟨ex, σ2, e2, h⟩ := loopM_ok hb n σ1 K h
      exact ⟨ex, σ2, by simp only [loopN, e]; exact e2, h⟩
    | exit j => exact ⟨_, _, by simp only [loopN, e], h⟩
    | ret => exact ⟨_, _, by simp only [loopN, e], h⟩
/-- what runs without any call runs the same with calls -/
theorem stepK_no {σ σ' : St} {dst : Option Nat} {pin : Bool} {k : K} (h : stepK (fun _ _ _ => none) nb σ dst pin k = some σ') : stepK cb nb σ dst pin k = some σ' := by
  cases k with
  | call f args xs =>
    simp only [stepK, doCall, Option.bind_eq_bind, Option.bind_eq_some_iff, Prod.exists] at h
    obtain ⟨_, _, _, _, _, _, h, _⟩ := h
    cases h
  | callv f args xs =>
    simp only [stepK] at h
    split at h
    · simp only [doCall, Option.bind_eq_bind, Option.bind_eq_some_iff, Prod.exists] at h
      obtain ⟨_, _, _, _, _, _, h, _⟩ := h
      cases h
    · cases h
  | _ => exact h
theorem stepOp_no {σ σ' : St} {o : COp} (h : stepOp (fun _ _ _ => none) nb σ o = some σ') : stepOp cb nb σ o = some σ' := by
  unfold stepOp at h ⊢
  split at h
  · exact stepK_no h
  · exact h
  · cases h
theorem stepOps_no : ∀ {ops : List COp} {σ σ' : St}, stepOps (fun _ _ _ => none) nb ops σ = some σ' → stepOps cb nb ops σ = some σ'
  | [], σ, σ', h => h
  | o :: ops, σ, σ', h => by
    simp only [stepOps, Option.bind_eq_some_iff] at h ⊢
    obtain ⟨σ1, h1, h2⟩ := h
    exact ⟨σ1, stepOp_no h1, stepOps_no h2⟩
theorem stepD_no : ∀ {ops : List (COp × Fl)} {σ σ' : St}, stepD (fun _ _ _ => none) nb ops σ = some σ' → stepD cb nb ops σ = some σ'
  | [], σ, σ', h => h
  | (o, q) :: ops, σ, σ', h => by
    simp only [stepD] at h ⊢
    split at h
    · rename_i σ1 h1
      rw [stepOp_no h1]
      split at h
      · rename_i hq
        simp only [hq, if_true]
        exact stepD_no h
      · cases h
    · cases h
theorem run_no : ∀ (cc : CC) (σ : St) (r : Ex × St), run (fun _ _ _ => none) nb L cc σ = some r → run cb nb L cc σ = some r := by
  intro cc
  induction cc with
  | skip => intro σ r h; exact h
  | reg ops =>
    intro σ r h
    simp only [run, Option.map_eq_some_iff] at h ⊢
    obtain ⟨σ1, h1, h2⟩ := h
    exact ⟨σ1, stepOps_no h1, h2⟩
  | dreg fz ops =>
    intro σ r h
    simp only [run, Option.map_eq_some_iff] at h ⊢
    obtain ⟨σ1, h1, h2⟩ := h
    exact ⟨σ1, stepD_no h1, h2⟩
  | seq a b iha ihb =>
    intro σ r h
    simp only [run] at h ⊢
    split at h
    · rename_i σ1 h1
      rw [iha _ _ h1]
      exact ihb _ _ h
    · rename_i hne
      obtain ⟨ex, σ1⟩ := r
      rw [iha _ _ h]
      cases ex with
      | normal => exact absurd h (hne _)
      | exit j => rfl
      | ret => rfl
  | fork p s a b ihp iha ihb =>
    intro σ r h
    simp only [run] at h ⊢
    split at h
    · rename_i σ1 h1
      rw [ihp _ _ h1]
      simp only
      split at h
      · split at h
        · rename_i hs
          obtain ⟨e, _⟩ := sameX_eq hs
          rw [iha _ _ (e.trans h), ihb _ _ h]
          rw [e, h] at hs
          simp only [hs, if_true]
        · cases h
      · split at h
        · split at h
          · rename_i σ2 h2
            rw [iha _ _ h2]
            exact ihb _ _ h
          · rename_i hne
            obtain ⟨ex, σ2⟩ := r
            rw [iha _ _ h]
            cases ex with
            | normal => exact absurd h (hne _)
            | exit j => rfl
            | ret => rfl
        · exact ihb _ _ h
        · cases h
    · rename_i hne
      obtain ⟨ex, σ1⟩ := r
      rw [ihp _ _ h]
      cases ex with
      | normal => exact absurd h (hne _)
      | exit j => rfl
      | ret => rfl
  | cond s a b iha ihb =>
    intro σ r h
    simp only [run] at h ⊢
    split at h
    · split at h
      · rename_i hs
        have e := sameR_eq hs
        rw [iha _ _ (e.trans h), ihb _ _ h]
        rw [e, h] at hs
        simp only [hs, if_true]
      · cases h
    · rename_i hne
      split at h
      · rename_i t ht
        cases t with
        | true => simp only [if_true] at h ⊢; exact iha _ _ h
        | false => simp only [Bool.false_eq_true, if_false] at h ⊢; exact ihb _ _ h
      · cases h
  | block id a ih =>
    intro σ r h
    simp only [run] at h ⊢
    cases ha : run (fun _ _ _ => none) nb L a σ with
    | none => rw [ha] at h; cases h
    | some q => rw [ha] at h; rw [ih _ _ ha]; exact h
  | loop kt kb a ih =>
    intro σ r h
    simp only [run] at h ⊢
    have key : ∀ (n : Nat) (σ : St), loopN (run (fun _ _ _ => none) nb L a) (maskN nb kt kb) n σ = some r → loopN (run cb nb L a) (maskN nb kt kb) n σ = some r := by
      intro n
      induction n with
      | zero => intro σ h; cases h
      | succ n ihn =>
        intro σ h
        simp only [loopN] at h ⊢
        cases ha : run (fun _ _ _ => none) nb L a (maskN nb kt kb σ) with
        | none => rw [ha] at h; cases h
        | some q =>
          obtain ⟨ex, σ1⟩ := q
          rw [ha] at h
          rw [ih _ _ ha]
          cases ex with
          | normal => exact ihn _ h
          | exit j => exact h
          | ret => exact h
    exact key L σ h
  | mask kt kb => intro σ r h; exact h
  | exit id => intro σ r h; exact h
  | ret => intro σ r h; exact h
theorem runC_ok (hc : CBCok c cb) : ∀ (cc : CC) (σ : St) (K : KT β), runC sh c nb L cc σ K = some r → ∃ ex σ', run cb nb L cc σ = some (ex, σ') ∧ K ex σ' = some r := by
  intro cc
  induction cc with
  | skip => intro σ K h; exact ⟨_, _, rfl, h⟩
  | reg ops =>
    intro σ K h
    obtain ⟨σ', e, h⟩ := stepOpsC_ok hc h
    exact ⟨_, σ', by simp only [run, e]; rfl, h⟩
  | dreg fz ops =>
    intro σ K h
    obtain ⟨σ', e, h⟩ := stepDC_ok hc (fzAllC_inv nb fz σ _ h)
    exact ⟨_, σ', by simp only [run, e]; rfl, h⟩
  | seq a b iha ihb =>
    intro σ K h
    obtain ⟨ex, σ1, e, h⟩ := iha _ _ h
    cases ex with
    | normal =>
      obtain ⟨ex, σ2, e2, h⟩ := ihb _ _ h
      exact ⟨ex, σ2, by simp only [run, e]; exact e2, h⟩
    | exit j => exact ⟨_, _, by simp only [run, e], h⟩
    | ret => exact ⟨_, _, by simp only [run, e], h⟩
  | fork p s a b ihp iha ihb =>
    intro σ K h
    obtain ⟨ex, σ1, e, h⟩ := ihp _ _ h
    cases ex with
    | exit j => exact ⟨_, _, by simp only [run, e], h⟩
    | ret => exact ⟨_, _, by simp only [run, e], h⟩
    | normal =>
      simp only [seqK] at h
      split at h
      · rename_i hub
        split at h
        · rename_i hsame
          unfold onR at h
          split at h
          · rename_i ex σ2 e1
            obtain ⟨e0, _⟩ := sameX_eq hsame
            have ra := run_no (cb := cb) _ _ _ (e0.trans e1)
            have rb := run_no (cb := cb) _ _ _ e1
            rw [e0, e1] at hsame
            refine ⟨ex, σ2, ?_, h⟩
            simp only [run, e, hub, ra, rb, hsame, if_true]
          · cases h
        · cases h
      · rename_i hne
        obtain ⟨t, et, h⟩ := aB_inv h
        rcases ifb_inv h with ⟨rfl, h⟩ | ⟨rfl, h⟩
        · obtain ⟨ex, σ2, e1, h⟩ := iha _ _ h
          cases ex with
          | normal =>
            obtain ⟨ex, σ3, e2, h⟩ := ihb _ _ h
            exact ⟨ex, σ3, by simp only [run, e, et, V.bool?, e1]; exact e2, h⟩
          | exit j => exact ⟨_, _, by simp only [run, e, et, V.bool?, e1], h⟩
          | ret => exact ⟨_, _, by simp only [run, e, et, V.bool?, e1], h⟩
        · obtain ⟨ex, σ2, e1, h⟩ := ihb _ _ h
          exact ⟨ex, σ2, by simp only [run, e, et, V.bool?]; exact e1, h⟩
  | cond s a b iha ihb =>
    intro σ K h
    simp only [runC] at h
    split at h
    · rename_i hub
      split at h
      · rename_i hsame
        unfold onR at h
        split at h
        · rename_i ex σ1 e1
          have e0 := sameR_eq hsame
          have ra := run_no (cb := cb) _ _ _ (e0.trans e1)
          have rb := run_no (cb := cb) _ _ _ e1
          rw [e0, e1] at hsame
          refine ⟨ex, σ1, ?_, h⟩
          simp only [run, hub, ra, rb, hsame, if_true]
        · cases h
      · cases h
    · rename_i hne
      obtain ⟨t, e, h⟩ := aB_inv h
      rcases ifb_inv h with ⟨rfl, h⟩ | ⟨rfl, h⟩
      · obtain ⟨ex, σ1, e1, h⟩ := iha _ _ h
        exact ⟨ex, σ1, by simp only [run, e, V.bool?, if_true]; exact e1, h⟩
      · obtain ⟨ex, σ1, e1, h⟩ := ihb _ _ h
        exact ⟨ex, σ1, by simp only [run, e, V.bool?, Bool.false_eq_true, if_false]; exact e1, h⟩
  | block id a ih =>
    intro σ K h
    obtain ⟨ex, σ1, e, h⟩ := ih _ _ h
    cases ex with
    | normal => exact ⟨_, _, by simp only [run, e], h⟩
    | exit j =>
      simp only [blockK] at h
      split at h
      · rename_i hj
        have hj := Nat.eq_of_beq_eq_true hj
        exact ⟨_, _, by simp only [run, e, hj, if_true], h⟩
      · rename_i hj
        have : j ≠ id := Nat.ne_of_beq_eq_false hj
        exact ⟨_, _, by simp only [run, e, this, if_false], h⟩
    | ret => exact ⟨_, _, by simp only [run, e], h⟩
  | loop kt kb a ih =>
    intro σ K h
    obtain ⟨ex, σ', e, h⟩ := loopM_ok ih L σ K h
    exact ⟨ex, σ', by simp only [run]; exact e, h⟩
  | mask kt kb => intro σ K h; exact ⟨_, _, rfl, h⟩
  | exit id => intro σ K h; exact ⟨_, _, rfl, h⟩
  | ret => intro σ K h; exact ⟨_, _, rfl, h⟩
theorem resOneC_ok {σ : St} {rv : RV} {k : V → Option β} (h : resOneC nb σ rv k = some r) : ∃ v, resOne nb σ rv = some v ∧ k v = some r := by
  cases rv with
  | tmp t =>
    simp only [resOneC] at h
    split at h
    · rename_i id off len sz ht
      split at h
      · rename_i hge
        have hge := of_decide_eq_true hge
        split at h
        · rename_i cs hb
          split at h
          · rename_i hd
            have hd := of_decide_eq_true hd
            obtain ⟨hl, h⟩ := chk_inv h
            exact ⟨_, by simp only [resOne, ht]; rw [if_pos hge, if_pos hd]; simp only [hb]; rw [if_pos hl], h⟩
          · cases h
        · cases h
      · rename_i hge
        have hge := of_decide_eq_false hge
        exact ⟨_, by simp only [resOne, ht]; rw [if_neg hge], h⟩
    · rename_i id off ht
      split at h
      · rename_i p cs hb
        split at h
        · rename_i hd
          have hd := of_decide_eq_true hd
          obtain ⟨hl, h⟩ := chk_inv h
          cases p with
          | true => exact ⟨_, by simp only [resOne, ht]; rw [if_pos hd]; simp only [hb]; rw [if_pos hl]; rfl, h⟩
          | false =>
            obtain ⟨vs, e, h⟩ := plainsC_inv h
            exact ⟨_, by simp only [resOne, ht]; rw [if_pos hd]; simp only [hb]; rw [if_pos hl]; simp only [Bool.false_eq_true, if_false, e, Option.map_some], h⟩
        · cases h
      · cases h
    · split at h
      · exact ⟨_, ‹_›, h⟩
      · cases h
  | tmpP t =>
    simp only [resOneC] at h
    split at h
    · rename_i id off len sz ht
      split at h
      · rename_i hge
        have hge := of_decide_eq_true hge
        split at h
        · rename_i cs hb
          exact ⟨_, by simp only [resOne, ht]; rw [if_pos hge]; simp only [hb], h⟩
        · cases h
      · cases h
    · split at h
      · exact ⟨_, ‹_›, h⟩
      · cases h
  | cell t agg n =>
    simp only [resOneC] at h
    split at h
    · rename_i id off ht
      split at h
      · rename_i p cs hb
        cases agg with
        | true =>
          obtain ⟨hl, h⟩ := chk_inv h
          cases p with
          | true => exact ⟨_, by simp only [resOne, ht, hb, if_true]; rw [if_pos hl], h⟩
          | false =>
            obtain ⟨vs, e, h⟩ := plainsC_inv h
            exact ⟨_, by simp only [resOne, ht, hb, if_true]; rw [if_pos hl]; simp only [Bool.false_eq_true, if_false, e, Option.map_some], h⟩
        | false =>
          simp only at h
          split at h
          · rename_i hd
            have hd := of_decide_eq_true hd
            obtain ⟨v, e, h⟩ := cellAt_inv h
            split at h
            · rename_i v' hv
              exact ⟨_, by simp only [resOne, ht, hb, Bool.false_eq_true, if_false, hd, and_self, if_true, e, Option.bind_some]; exact hv, h⟩
            · cases h
          · cases h
      · cases h
    · cases h
theorem resManyC_ok {σ : St} : ∀ {rs : List RV} {k : List V → Option β}, resManyC nb σ rs k = some r → ∃ vs, rs.mapM (resOne nb σ) = some vs ∧ k vs = some r
  | [], k, h => ⟨[], rfl, h⟩
  | x :: rs, k, h => by
    obtain ⟨v, e, h⟩ := resOneC_ok h
    obtain ⟨vs, e2, h⟩ := resManyC_ok h
    exact ⟨v :: vs, by simp [List.mapM_cons, e, e2], h⟩
theorem resultsC_ok {σ : St} {rs : List RV} {k : V → Option β} (h : resultsC nb σ rs k = some r) : ∃ v, results nb σ rs = some v ∧ k v = some r := by
  unfold resultsC at h
  split at h
  · rename_i hd
    split at h
    · obtain ⟨v, e, h⟩ := resOneC_ok h
      exact ⟨v, by simp only [results, hd, if_true]; exact e, h⟩
    · rename_i hne
      obtain ⟨vs, e, h⟩ := resManyC_ok h
      refine ⟨.tup vs, ?_, h⟩
      simp only [results, hd, if_true, e, Option.map_some]
  · cases h
theorem borC_ok {b : List B} {ids : List Nat} : ∀ {l : List Nat} {k : Bor → Option β}, borC b nb ids l k = some r → ∃ bor, borOf b nb ids l = some bor ∧ k bor = some r
  | [], k, h => ⟨[], rfl, h⟩
  | id :: l, k, h => by
    simp only [borC] at h
    split at h
    · rename_i p cs hb
      cases p with
      | true =>
        obtain ⟨bor, e, h⟩ := borC_ok (l := l) h
        exact ⟨_, by simp only [borOf, hb, B.lend, B.isRow, Bool.true_or, Bool.or_true, Bool.and_self, if_true, e, Option.map_some, B.ren], h⟩
      | false =>
        simp only at h
        split at h
        · rename_i hd
          obtain ⟨hl, h⟩ := chk_inv h
          obtain ⟨bor, e, h⟩ := borC_ok (l := l) h
          exact ⟨_, by simp only [borOf, hb, B.lend, Bool.false_or, hl, hd, Bool.true_or, Bool.and_self, if_true, e, Option.map_some, B.ren, Bool.false_eq_true, if_false], h⟩
        · cases h
    · rename_i es hb
      split at h
      · rename_i hd
        obtain ⟨bor, e, h⟩ := borC_ok (l := l) h
        exact ⟨_, by simp only [borOf, hb, B.lend, hd, Bool.true_or, Bool.and_self, if_true, e, Option.map_some, B.ren], h⟩
      · cases h
    · rename_i n hb
      split at h
      · rename_i hd
        obtain ⟨bor, e, h⟩ := borC_ok (l := l) h
        exact ⟨_, by simp only [borOf, hb, B.lend, hd, Bool.true_or, Bool.and_self, if_true, e, Option.map_some, B.ren], h⟩
      · cases h
    · cases h
theorem finK_ok {σ : St} {rs : List RV} {k : V → Bor → Option β} (h : (resultsC nb σ rs fun v => borC σ.b nb (outIds nb v) (outIds nb v) fun b => match nodupB (outIds nb v) with
    | true => k (renR (idxIn (outIds nb v)) v) b
    | false => none) = some r) : ∃ v b, leaveF nb σ rs = some (v, b) ∧ k v b = some r := by
  obtain ⟨v, e1, h⟩ := resultsC_ok h
  obtain ⟨b, e2, h⟩ := borC_ok h
  split at h
  · rename_i hd
    refine ⟨_, b, ?_, h⟩
    simp only [leaveF, e1, e2, Option.bind_eq_bind, Option.bind_some, hd, if_true, Option.pure_def]
  · cases h
theorem funC_ok {T : Nat → Option CF} {pr : CB} {d : Nat} {f : Nat} (hc : CBCok c (evF T pr L d)) {cf : CF} (hT : T f = some cf) {args : List V} {bor : Bor} {k : V → Bor → Option β} (h : funC sh c L cf args bor k = some r) : ∃ v b, evF T pr L (d + 1) f args bor = some (v, b) ∧ k v b = some r := by
  have h : funC0 sh c L cf args bor k = some r := by
    unfold funC at h
    split at h
    · rename_i sz es rest _
      cases es with
      | nil => exact h
      | cons a l => exact h
    · exact h
  obtain ⟨ex, σ', e, h⟩ := runC_ok hc _ _ _ h
  cases ex with
  | exit j => cases h
  | normal =>
    obtain ⟨v, b, e1, h⟩ := finK_ok h
    exact ⟨v, b, by simp only [evF, hT, e, e1], h⟩
  | ret =>
    obtain ⟨v, b, e1, h⟩ := finK_ok h
    exact ⟨v, b, by simp only [evF, hT, e, e1], h⟩
/-- what 'd' answers of function 'g', the machine answers from depth 'D' on -/
def FOk (T : Nat → Option CF) (L g : Nat) (d : ∀ (β : Type), List V → Bor → (V → Bor → Option β) → Option β) (D : Nat) : Prop := ∀ n, D ≤ n → ∀ (β : Type) (args : List V) (bor : Bor) (k : V → Bor → Option β) (r : β), d β args bor k = some r → ∃ v b, evF T (fun _ _ _ => none) L n g args bor = some (v, b) ∧ k v b = some r
theorem cbc_no {cb : CB} : CBCok noC cb := by
  intro β f args bor k r h; cases h
theorem cbc_add {c : CBC} {cb : CB} (hc : CBCok c cb) {g : Nat} {d : ∀ (β : Type), List V → Bor → (V → Bor → Option β) → Option β} (hd : ∀ (β : Type) (args : List V) (bor : Bor) (k : V → Bor → Option β) (r : β), d β args bor k = some r → ∃ v b, cb g args bor = some (v, b) ∧ k v b = some r) : CBCok (addC g d c) cb := by
  intro β f args bor k r h
  unfold addC at h
  split at h
  · rename_i hf
    rw [Nat.eq_of_beq_eq_true hf]
    exact hd _ _ _ _ _ h
  · exact hc _ _ _ _ _ _ h
theorem cbc_addT {c : CBC} {cb : CB} (hc : CBCok c cb) {g : Nat} {tags : List Nat} {d : ∀ (β : Type), List V → Bor → (V → Bor → Option β) → Option β} (hd : ∀ (β : Type) (args : List V) (bor : Bor) (k : V → Bor → Option β) (r : β), d β args bor k = some r → ∃ v b, cb g args bor = some (v, b) ∧ k v b = some r) : CBCok (addT g tags d c) cb := by
  intro β f args bor k r h
  unfold addT at h
  split at h
  · rename_i hf
    simp only [Bool.and_eq_true] at hf
    rw [Nat.eq_of_beq_eq_true hf.1]
    exact hd _ _ _ _ _ h
  · exact hc _ _ _ _ _ _ h
theorem fok_of {T : Nat → Option CF} {L g : Nat} {cf : CF} (hT : T g = some cf) {d : ∀ (β : Type), List V → Bor → (V → Bor → Option β) → Option β} {D : Nat}
    (h : ∀ m, D ≤ m → ∃ (sh : Nat → Sh) (c : CBC), CBCok c (evF T (fun _ _ _ => none) L m) ∧ ∀ (β : Type) (args : List V) (bor : Bor) (k : V → Bor → Option β) (r : β), d β args bor k = some r → funC sh c L cf args bor k = some r) : FOk T L g d (D + 1) := by
  intro n hn β args bor k r hr
  obtain ⟨m, rfl⟩ : ∃ m, n = m + 1 := ⟨n - 1, by omega⟩
  obtain ⟨sh, c, hc, hd⟩ := h m (by omega)
  exact funC_ok hc hT (hd _ _ _ _ _ hr)
/-- what is known at one input alone -/
theorem fok_at {T : Nat → Option CF} {L g : Nat} {D : Nat} (args0 : List V) (v0 : V) (h : ∀ n, D ≤ n → evF T (fun _ _ _ => none) L n g args0 [] = some (v0, [])) (d : ∀ (β : Type), List V → Bor → (V → Bor → Option β) → Option β)
    (hd : ∀ (β : Type) (args : List V) (bor : Bor) (k : V → Bor → Option β) (r : β), d β args bor k = some r → args = args0 ∧ bor = [] ∧ k v0 [] = some r) : FOk T L g d D := by
  intro n hn β args bor k r hr
  obtain ⟨rfl, rfl, hk⟩ := hd _ _ _ _ _ hr
  exact ⟨v0, [], h n hn, hk⟩
end
end Go.Proofs.Ythplooifbkopgaa
