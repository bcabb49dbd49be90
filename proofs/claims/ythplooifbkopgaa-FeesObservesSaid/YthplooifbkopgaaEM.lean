/- Operations of the abstract machine: maps. -/
import Derived.Test.YthplooifbkopgaaE15
import Derived.MapKept
import Derived.Carry
namespace Go.Proofs.Ythplooifbkopgaa
set_option linter.unusedVariables false
set_option linter.unusedSimpArgs false
variable {ren : Nat → Option Nat} {we : World} {ωe : Nat → Ow} {U : Nat → Nat → Prop} {O : Nat → Prop} {σ : St} {a : Act} {w : World} {ω : Nat → Ow} {μ : Nat → Nat} {P : Program} {nb : Nat}

/-! ### keys -/
def CheckRun (P : Program) (em : Bool) (dd : Nat) (t : TypeId) (n : Nat) : Prop :=
  ∀ (w : World) (us : List Value) (x : Value), us.length = n → OfCells P t us x → (Instr.checkKey em dd t x).run P w = .ok () w
theorem checkFields_run {em : Bool} {dd d : Nat} (IH : ∀ t n, eqSize P d t = some n → CheckRun P em dd t n) (xs : List Value) (w : World) : ∀ (fs : List Field) (off n : Nat), eqFieldsTo P (eqSize P d) fs off = some n → xs.length = n →
    ∀ f ∈ fs, f.name ≠ "_" ∧ ∃ x, (part f.type xs.toArray f.offset).run P w = .ok x w ∧ (Instr.checkKey em dd f.type x).run P w = .ok () w
  | [], off, n, h, hx => by simp
  | f :: fs, off, n, h, hx => by
    simp only [eqFieldsTo, Option.bind_eq_bind, Option.bind_eq_some_iff] at h
    obtain ⟨s, hs, h⟩ := h
    split at h
    · rename_i hc
      obtain ⟨hname, hoff, hsz⟩ := hc
      have hmono : ∀ (fs : List Field) (o n : Nat), eqFieldsTo P (eqSize P d) fs o = some n → o ≤ n := by
        intro fs
        induction fs with
        | nil => intro o n h; cases h; exact Nat.le_refl _
        | cons g gs ih =>
          intro o n h
          simp only [eqFieldsTo, Option.bind_eq_bind, Option.bind_eq_some_iff] at h
          obtain ⟨s', _, h⟩ := h
          split at h
          · have := ih _ _ h; omega
          · cases h
      have hle := hmono _ _ _ h
      obtain ⟨b, hb, hb1⟩ := eqSize_agg hs
      obtain ⟨x, px, ox⟩ := part_of hb hsz hb1 (xs := xs) (off := off) (by omega) w
      intro g hg
      rcases List.mem_cons.1 hg with rfl | hg
      · exact ⟨hname, x, by rw [hoff]; exact px, IH _ _ hs w _ x (by simp; omega) ox⟩
      · exact checkFields_run IH xs w fs (off + s) n h hx g hg
    · cases h
theorem check_run (em : Bool) (m : Nat) : ∀ (d : Nat) (t : TypeId) (n : Nat), eqSize P d t = some n → CheckRun P em (m + d) t n
  | 0, t, n, h => by cases h
  | d + 1, t, n, h => by
    intro w us x hu ox
    unfold eqSize at h
    split at h
    · rename_i k hd
      show (Instr.checkKey em (m + d + 1) t x).run P w = _
      simp [Instr.checkKey, run_underlying hd, Result.andThen_ok]
    · rename_i len e hd
      simp only [Option.bind_eq_bind, Option.bind_eq_some_iff] at h
      obtain ⟨s, hs, h⟩ := h
      split at h
      · rename_i hsz
        cases h
        rcases ox with ⟨_, rfl⟩ | ⟨g, _⟩
        · obtain ⟨i, hi, hi'⟩ := sizeT_info hsz
          obtain ⟨b, hb, hb1⟩ := eqSize_agg hs
          have IH := check_run em m d e s hs
          show (Instr.checkKey em (m + d + 1) t _).run P w = _
          rw [Instr.checkKey]
          simp only [Sem.run_bind, run_underlying hd, Result.andThen_ok]
          simp only [Std.Legacy.Range.forIn_eq_forIn_range', Std.Legacy.Range.size, Nat.sub_zero, Nat.add_one_sub_one, Nat.div_one]
          have each : ∀ j ∈ List.range' 0 len, ∃ x, (part e us.toArray (j * s)).run P w = .ok x w ∧ (Instr.checkKey em (m + d) e x).run P w = .ok () w := by
            intro j hj
            have hj : j < len := by simpa using hj
            have hm : j * s + s ≤ len * s := by rw [← Nat.succ_mul]; exact Nat.mul_le_mul_right s hj
            obtain ⟨x, px, ox⟩ := part_of hb hsz hb1 (xs := us) (off := j * s) (by omega) w
            exact ⟨x, px, IH w _ x (by simp; omega) ox⟩
          generalize List.range' 0 len = is at each
          induction is with
          | nil => simp
          | cons j is ih =>
            obtain ⟨x, p1, p2⟩ := each j (by simp)
            simp only [List.forIn_cons, Sem.run_bind, run_sizeOf hsz, Result.andThen_ok, p1, p2, Sem.run_pure]
            exact ih (fun y hy => each y (by simp [hy]))
        · simp [aggT, hd] at g
      · cases h
    · rename_i fs hd
      split at h
      · cases h
      · rename_i hst
        rcases ox with ⟨_, rfl⟩ | ⟨g, _⟩
        · show (Instr.checkKey em (m + d + 1) t _).run P w = _
          rw [Instr.checkKey]
          simp only [Sem.run_bind, run_underlying hd, Result.andThen_ok]
          rw [← Array.forIn_toList]
          have each := checkFields_run (fun t n h => check_run em m d t n h) us w fs.toList 0 n h hu
          clear h hd hst
          generalize fs.toList = L at each
          induction L with
          | nil => simp
          | cons f L ih =>
            obtain ⟨hn, x, p1, p2⟩ := each f (by simp)
            simp only [List.forIn_cons, Sem.run_bind, hn, ne_eq, not_false_eq_true, if_true, Result.andThen_ok, p1, p2, Sem.run_pure]
            exact ih (fun y hy => each y (by simp [hy]))
        · simp [aggT, hd] at g
    · cases h
theorem eqV_true : ∀ {us vs : List Value}, eqV us vs = some true → us = vs ∧ ∀ u ∈ us, ∃ k n, u = .int k n
  | [], [], _ => ⟨rfl, by simp⟩
  | [], _ :: _, h => by simp [eqV] at h
  | u :: us, [], h => by simp [eqV] at h
  | u :: us, v :: vs, h => by
    unfold eqV at h
    split at h
    · simp_all
    · rename_i e1 e2
      cases e1; cases e2
      split at h
      · rename_i hk
        simp only [Option.map_eq_some_iff, Bool.and_eq_true, beq_iff_eq] at h
        obtain ⟨r, hr, e, rfl⟩ := h
        obtain ⟨e2, hi⟩ := eqV_true hr
        subst hk; subst e; subst e2
        exact ⟨rfl, fun u hu => by rcases List.mem_cons.1 hu with rfl | hu; exact ⟨_, _, rfl⟩; exact hi u hu⟩
      · cases h
    · cases h
theorem sameBits_ints {us : List Value} (h : ∀ u ∈ us, ∃ k n, u = .int k n) (n : Nat) : Instr.sameBits (n + 1) (.agg us.toArray) (.agg us.toArray) = true := by
  simp only [Instr.sameBits, BEq.rfl, Bool.true_and, List.all_eq_true]
  intro ⟨x, y⟩ hxy
  have e : x = y := by
    obtain ⟨i, hi, e⟩ := List.getElem_of_mem hxy
    simp at e
    rw [← e.1, ← e.2]
  subst e
  obtain ⟨k, m, rfl⟩ := h x (List.of_mem_zip hxy).1
  cases n <;> simp [Instr.sameBits]

theorem checkKey_int {t : TypeId} {k : IntKind} (hd : P.underlying t = some (.int k)) {x : Value} (em : Bool) (n : Nat) : (Instr.checkKey em (n + 1) t x).run P w = .ok () w := by
  simp [Instr.checkKey, run_underlying hd, Result.andThen_ok]
theorem checkKey_str {t : TypeId} (hd : P.underlying t = some .string) {x : Value} (em : Bool) (n : Nat) : (Instr.checkKey em (n + 1) t x).run P w = .ok () w := by
  simp [Instr.checkKey, run_underlying hd, Result.andThen_ok]
/-- two keys of a map, as the model holds them -/
theorem key_check {Wr : Nat → Nat → Prop} {t : TypeId} {kd : Nat} (hk : keyC P t = some kd) {k : V} {x : Value} (ho : keyOk kd k = true) (h : RepP ren w Wr k x) (em : Bool) (w' : World) : (Instr.checkKey em 10000 t x).run P w' = .ok () w' := by
  unfold keyC at hk
  simp only [Option.bind_eq_bind, Option.bind_eq_some_iff] at hk
  obtain ⟨d, hd, hk⟩ := hk
  split at hk
  · exact checkKey_int hd em 9999
  · exact checkKey_str hd em 9999
  · rename_i fs
    simp only [Option.bind_eq_some_iff, Option.some.injEq] at hk
    obtain ⟨n, hn, rfl⟩ := hk
    cases k <;> simp [keyOk] at ho
    obtain ⟨us, rfl, hc⟩ := CellsP.of_agg h
    exact check_run em 9980 20 t n hn w' us _ (by rw [← hc.1]; exact ho) (.inl ⟨by simp [aggT, hd], rfl⟩)
  · rename_i n' e'
    simp only [Option.bind_eq_some_iff, Option.some.injEq] at hk
    obtain ⟨n, hn, rfl⟩ := hk
    cases k <;> simp [keyOk] at ho
    obtain ⟨us, rfl, hc⟩ := CellsP.of_agg h
    exact check_run em 9980 20 t n hn w' us _ (by rw [← hc.1]; exact ho) (.inl ⟨by simp [aggT, hd], rfl⟩)
  · cases hk
theorem bytes_eq {a b : ByteArray} (h : (a == b) = true) : a = b := by
  have h : (a.data == b.data) = true := h
  cases a; cases b
  simpa using h
theorem bytes_refl (a : ByteArray) : (a == a) = true := by
  show (a.data == a.data) = true
  simp
def KeyCmp (P : Program) (t : TypeId) (d : TypeDesc) (w : World) (x y : Value) (r : Bool) : Prop :=
  ((∃ b, aggT P t = some b ∧ b = true) ∧ (∀ y, Instr.sameNow d x y = none) ∧ (Op.equal t x y).run P w = .ok r w) ∨ Instr.sameNow d x y = some r
theorem key_cmp {Wr : Nat → Nat → Prop} {t : TypeId} {kd : Nat} (hk : keyC P t = some kd) {d : TypeDesc} (hd : P.underlying t = some d) {k k' : V} {x y : Value} (ho : keyOk kd k = true) (h : RepP ren w Wr k x) (h' : RepP ren w Wr k' y) {r : Bool} (he : keyEq k k' = some r) (w' : World) :
    KeyCmp P t d w' x y r ∧ (r = true → Instr.sameBits 10000 y x = true) := by
  unfold keyC at hk
  simp only [Option.bind_eq_bind, Option.bind_eq_some_iff] at hk
  obtain ⟨d', hd', hk⟩ := hk
  rw [hd] at hd'; cases hd'
  have agg : ∀ n, eqSize P 20 t = some n → kd = n + 2 → aggT P t = some true → (∀ x y, Instr.sameNow d x y = none) → KeyCmp P t d w' x y r ∧ (r = true → Instr.sameBits 10000 y x = true) := by
    intro n hn e hb hs
    subst e
    cases k <;> simp [keyOk] at ho
    rename_i cs
    cases k' <;> simp [keyEq] at he
    rename_i ds
    obtain ⟨us, rfl, hc⟩ := CellsP.of_agg h
    obtain ⟨vs, rfl, hc'⟩ := CellsP.of_agg h'
    have hq := eqCells_V he.2 hc hc'
    refine ⟨.inl ⟨⟨_, hb, rfl⟩, fun y => hs _ y, ?_⟩, fun hr => ?_⟩
    · exact eq_run 9980 20 t n hn w' us vs _ _ r (by rw [← hc.1]; exact ho) (by rw [← hc'.1, ← he.1]; exact ho) (.inl ⟨hb, rfl⟩) (.inl ⟨hb, rfl⟩) hq
    · subst hr
      obtain ⟨e, hi⟩ := eqV_true hq
      subst e
      exact sameBits_ints hi 9999
  split at hk
  · cases hk
    cases k <;> simp [keyOk] at ho
    rename_i v; cases v <;> simp at ho
    cases k' <;> simp [keyEq] at he
    rename_i v'; cases v' <;> simp at he
    cases h; cases h'
    obtain ⟨e, rfl⟩ := he
    refine ⟨.inr (by simp [Instr.sameNow, e]), fun hr => ?_⟩
    simp at hr
    simp [Instr.sameBits, e, hr]
  · cases hk
    cases k <;> simp [keyOk] at ho
    rename_i v; cases v <;> simp at ho
    cases k' <;> simp [keyEq] at he
    rename_i v'; cases v' <;> simp at he
    cases h; cases h'
    subst he
    refine ⟨.inr (by simp [Instr.sameNow]), fun hr => ?_⟩
    simp only [Instr.sameBits]
    rw [bytes_eq hr]
    exact bytes_refl _
  · simp only [Option.bind_eq_some_iff, Option.some.injEq] at hk
    obtain ⟨n, hn, rfl⟩ := hk
    exact agg n hn rfl (by simp [aggT, hd]) (fun x y => by cases x <;> cases y <;> rfl)
  · simp only [Option.bind_eq_some_iff, Option.some.injEq] at hk
    obtain ⟨n, hn, rfl⟩ := hk
    exact agg n hn rfl (by simp [aggT, hd]) (fun x y => by cases x <;> cases y <;> rfl)
  · cases hk

/-! ### where a key stands -/
theorem mfind_none {key : V} : ∀ {es : List (V × V)}, mfind key es = some none → ∀ (j : Nat) (k v : V), es[j]? = some (k, v) → keyEq key k = some false
  | [], _, j, k, v, hj => by simp at hj
  | (k0, v0) :: es, h, j, k, v, hj => by
    unfold mfind at h
    split at h
    · cases h
    · rename_i he
      cases j with
      | zero => simp at hj; rw [← hj.1]; exact he
      | succ j => exact mfind_none h j k v (by simpa using hj)
    · cases h
theorem mfind_some {key r : V} : ∀ {es : List (V × V)}, mfind key es = some (some r) → ∃ (j : Nat) (k : V), es[j]? = some (k, r) ∧ keyEq key k = some true ∧ ∀ (i : Nat) (k' v' : V), i < j → es[i]? = some (k', v') → keyEq key k' = some false
  | [], h => by cases h
  | (k0, v0) :: es, h => by
    unfold mfind at h
    split at h
    · rename_i he; cases h; exact ⟨0, k0, rfl, he, fun i _ _ hi => by omega⟩
    · rename_i he
      obtain ⟨j, k, h1, h2, h3⟩ := mfind_some h
      refine ⟨j + 1, k, by simpa using h1, h2, fun i k' v' hi hk' => ?_⟩
      cases i with
      | zero => simp at hk'; rw [← hk'.1]; exact he
      | succ i => exact h3 i k' v' (by omega) (by simpa using hk')
    · cases h
theorem mset_spec {key val : V} : ∀ {es es' : List (V × V)}, mset key val es = some es' →
    ((∀ (j : Nat) (k v : V), es[j]? = some (k, v) → keyEq key k = some false) ∧ es' = es ++ [(key, val)]) ∨
    (∃ (j : Nat) (k r : V), es[j]? = some (k, r) ∧ keyEq key k = some true ∧ (∀ (i : Nat) (k' v' : V), i < j → es[i]? = some (k', v') → keyEq key k' = some false) ∧ es' = es.set j (key, val))
  | [], es', h => by cases h; exact .inl ⟨by simp, rfl⟩
  | (k0, v0) :: es, es', h => by
    unfold mset at h
    split at h
    · rename_i he; cases h; exact .inr ⟨0, k0, v0, rfl, he, fun i _ _ hi => by omega, rfl⟩
    · rename_i he
      simp only [Option.map_eq_some_iff] at h
      obtain ⟨es1, h1, rfl⟩ := h
      rcases mset_spec h1 with ⟨g1, g2⟩ | ⟨j, k, r, g1, g2, g3, g4⟩
      · refine .inl ⟨fun j k v hj => ?_, by rw [g2]; rfl⟩
        cases j with
        | zero => simp at hj; rw [← hj.1]; exact he
        | succ j => exact g1 j k v (by simpa using hj)
      · refine .inr ⟨j + 1, k, r, by simpa using g1, g2, fun i k' v' hi hk' => ?_, by rw [g4]; rfl⟩
        cases i with
        | zero => simp at hk'; rw [← hk'.1]; exact he
        | succ i => exact g3 i k' v' (by omega) (by simpa using hk')
    · cases h
theorem findNow_none {d : TypeDesc} {x : Value} : ∀ (L : List MapEntry) (i : Nat), (∀ e ∈ L, Instr.sameNow d x e.key = some false) → Instr.findNow d x L i = some none
  | [], i, _ => rfl
  | e :: L, i, h => by simp only [Instr.findNow, h e (by simp)]; exact findNow_none L (i + 1) (fun e he => h e (by simp [he]))
theorem findNow_some {d : TypeDesc} {x : Value} : ∀ (L : List MapEntry) (i j : Nat) (e : MapEntry), L[j]? = some e → Instr.sameNow d x e.key = some true → (∀ i' e', i' < j → L[i']? = some e' → Instr.sameNow d x e'.key = some false) → Instr.findNow d x L i = some (some (i + j, e.val))
  | [], i, j, e, h, _, _ => by simp at h
  | e0 :: L, i, 0, e, h, h1, _ => by simp at h; subst h; simp [Instr.findNow, h1]
  | e0 :: L, i, j + 1, e, h, h1, h2 => by
    have := findNow_some L (i + 1) j e (by simpa using h) h1 (fun i' e' hi he => h2 (i' + 1) e' (by omega) (by simpa using he))
    simp only [Instr.findNow, h2 0 e0 (by omega) rfl, this]
    congr 3; omega
theorem findAsking_none {t : TypeId} {x : Value} {w : World} : ∀ (L : List MapEntry) (i : Nat), (∀ e ∈ L, (Op.equal t x e.key).run P w = .ok false w) → (Instr.findAsking t x L i).run P w = .ok none w
  | [], i, _ => by simp [Instr.findAsking]
  | e :: L, i, h => by simp [Instr.findAsking, h e (by simp), findAsking_none L (i + 1) (fun e he => h e (by simp [he]))]
theorem findAsking_some {t : TypeId} {x : Value} {w : World} : ∀ (L : List MapEntry) (i j : Nat) (e : MapEntry), L[j]? = some e → (Op.equal t x e.key).run P w = .ok true w → (∀ i' e', i' < j → L[i']? = some e' → (Op.equal t x e'.key).run P w = .ok false w) → (Instr.findAsking t x L i).run P w = .ok (some (i + j, e.val)) w
  | [], i, j, e, h, _, _ => by simp at h
  | e0 :: L, i, 0, e, h, h1, _ => by simp at h; subst h; simp [Instr.findAsking, h1]
  | e0 :: L, i, j + 1, e, h, h1, h2 => by
    have := findAsking_some L (i + 1) j e (by simpa using h) h1 (fun i' e' hi he => h2 (i' + 1) e' (by omega) (by simpa using he))
    have e3 : i + 1 + j = i + (j + 1) := by omega
    rw [e3] at this
    simp [Instr.findAsking, h2 0 e0 (by omega) rfl, this]
theorem findKey_none {t : TypeId} {d : TypeDesc} (hd : P.underlying t = some d) {x : Value} {w : World} {L : List MapEntry} (h : ∀ e ∈ L, KeyCmp P t d w x e.key false) : (Instr.findKey t x L).run P w = .ok none w := by
  simp only [Instr.findKey, Sem.run_bind, run_underlying hd, Result.andThen_ok]
  cases L with
  | nil => simp [Instr.findNow]
  | cons e0 L =>
    rcases h e0 (by simp) with ⟨⟨b, hb, rfl⟩, h1, h2⟩ | h1
    · have ask : ∀ e ∈ e0 :: L, (Op.equal t x e.key).run P w = .ok false w := fun e he => by
        rcases h e he with ⟨_, _, g⟩ | g
        · exact g
        · rw [h1] at g; cases g
      rw [show Instr.findNow d x (e0 :: L) 0 = none by simp [Instr.findNow, h1]]
      exact findAsking_none _ 0 ask
    · by_cases hall : ∀ e ∈ e0 :: L, Instr.sameNow d x e.key = some false
      · rw [findNow_none _ 0 hall]; rfl
      · exfalso
        apply hall
        intro e he
        rcases h e he with ⟨_, g, _⟩ | g
        · rw [g] at h1; cases h1
        · exact g
theorem findKey_some {t : TypeId} {d : TypeDesc} (hd : P.underlying t = some d) {x : Value} {w : World} {L : List MapEntry} {j : Nat} {e : MapEntry} (hj : L[j]? = some e) (h1 : KeyCmp P t d w x e.key true) (h2 : ∀ i' e', i' < j → L[i']? = some e' → KeyCmp P t d w x e'.key false) : (Instr.findKey t x L).run P w = .ok (some (j, e.val)) w := by
  simp only [Instr.findKey, Sem.run_bind, run_underlying hd, Result.andThen_ok]
  rcases h1 with ⟨_, g1, g2⟩ | g1
  · have hn : Instr.findNow d x L 0 = none := by
      cases L with
      | nil => simp at hj
      | cons e0 L => simp [Instr.findNow, g1]
    rw [hn]
    have := findAsking_some (P := P) L 0 j e hj g2 (fun i' e' hi he => by
      rcases h2 i' e' hi he with ⟨_, _, g⟩ | g
      · exact g
      · rw [g1] at g; cases g)
    simpa using this
  · have := findNow_some L 0 j e hj g1 (fun i' e' hi he => by
      rcases h2 i' e' hi he with ⟨_, g, _⟩ | g
      · rw [g] at g1; cases g1
      · exact g)
    rw [this]; simp

/-! ### blocks that hold maps -/
theorem blen_mp {b : List B} {id : Nat} (hid : id < b.length) (es : List (V × V)) : blen (b.set id (.mp es)) id = some 0 := by
  unfold blen; rw [List.getElem?_set_self hid]
/-- a new map -/
theorem Rel.newMap (R : Rel ren we ωe U O σ a w ω μ) {id : Nat} (hid : σ.b[id]? = some .gone) :
    Rel ren we ωe U O (σ.setB id (.mp [])) a (w.alloc (.map #[] 0)) (upd ω w.heap.size (.blk id)) (upd μ id w.heap.size) := by
  have hlt : id < σ.b.length := (List.getElem?_eq_some_iff.1 hid).1
  have hnew : (w.alloc (.map #[] 0)).heap[w.heap.size]? = some (.map #[] 0) := heap_alloc_new w _
  have hwsz : ∀ k, ω k ≠ .no → k < w.heap.size := fun k h => (R.ow k h).2
  have hgs : ∀ (l : Loc) β h, ω β = .gs l h → upd ω w.heap.size (.blk id) β = .gs l h ∧ (w.alloc (.map #[] 0)).heap[β]? = w.heap[β]? := by
    intro l β h e
    have hβ := hwsz β (by rw [e]; simp)
    exact ⟨by rw [upd_other _ _ (by omega)]; exact e, heap_alloc_old w _ hβ⟩
  have F : Fr (env U σ w ω μ) (env U (σ.setB id (.mp [])) (w.alloc (.map #[] 0)) (upd ω w.heap.size (.blk id)) (upd μ id w.heap.size)) := by
    refine ⟨fun k o u h1 h2 => ?_, fun id' L hL => ?_⟩
    · have hk : k < w.heap.size := World.block_lt_of_cell? w ⟨k, o, none⟩ h2
      refine ⟨?_, (World.cell?_alloc_lt w _ ⟨k, o, none⟩ hk).trans h2⟩
      show ¬ wr U (upd ω w.heap.size (.blk id)) k o
      unfold wr
      rw [upd_other _ _ (by omega)]
      exact h1
    · have hL : blen σ.b id' = some L := hL
      have hne : id' ≠ id := by rintro rfl; simp [blen, hid] at hL
      refine ⟨?_, upd_other _ _ hne, ?_⟩
      · show blen (σ.b.set id _) id' = some L
        unfold blen at hL ⊢
        rw [List.getElem?_set_ne (fun e => hne e.symm)]
        exact hL
      · show rsize w (μ id') ≤ rsize (w.alloc (.map #[] 0)) (μ id')
        by_cases hm : μ id' < w.heap.size
        · unfold rsize; rw [heap_alloc_old w _ hm]; exact Nat.le_refl _
        · unfold rsize; rw [Array.getElem?_eq_none (by omega)]; exact Nat.zero_le _
  refine R.step F rfl (fun t j β h _ e => hgs _ β h e) (fun id' p' cs' h' hne' => ?_) (fun id' cs' h' => ?_) (fun id' es' h' => ?_) (Kept.alloc No w _) (fun k _ h => no_of h) (fun k hk => ?_) (fun k => ?_)
  · by_cases hne : id' = id
    · subst hne
      simp only [St.setB] at h'
      rw [List.getElem?_set_self hlt] at h'
      cases h'
    · simp only [St.setB] at h'
      rw [List.getElem?_set_ne (fun e => hne e.symm)] at h'
      obtain ⟨e0, arr', T', e1, _⟩ := R.live h' hne'
      have hβ := hwsz (μ id') (by rw [e0]; simp)
      exact .inl ⟨h', by rw [upd_other _ _ (by omega)]; exact e0, heap_alloc_old w _ hβ, fun j β h e => hgs _ β h e⟩
  · by_cases hne : id' = id
    · subst hne
      simp only [St.setB] at h'
      rw [List.getElem?_set_self hlt] at h'
      cases h'
    · simp only [St.setB] at h'
      rw [List.getElem?_set_ne (fun e => hne e.symm)] at h'
      obtain ⟨e0, arr', T', fr', e1, _⟩ := R.fs id' cs' h'
      have hβ : μ id' < w.heap.size := (Array.getElem?_eq_some_iff.1 e1).1
      refine .inl ⟨h', fun o hw => e0 o ?_, heap_alloc_old w _ hβ⟩
      unfold wr at hw ⊢
      rwa [upd_other _ _ (by omega)] at hw
  · by_cases hne : id' = id
    · subst hne
      simp only [St.setB] at h'
      rw [List.getElem?_set_self hlt] at h'
      cases h'
      exact .inr ⟨by rw [upd_same, upd_same], #[], 0, by rw [upd_same]; exact hnew, rfl, by simp⟩
    · simp only [St.setB] at h'
      rw [List.getElem?_set_ne (fun e => hne e.symm)] at h'
      obtain ⟨e0, arr', clock', e1, _⟩ := R.ms id' es' h'
      have hβ := hwsz (μ id') (by rw [e0]; simp)
      exact .inl ⟨h', by rw [upd_other _ _ (by omega)]; exact e0, heap_alloc_old w _ hβ⟩
  · by_cases hk' : k = w.heap.size
    · subst hk'; exact ⟨.inl R.kp.size, by simp⟩
    · rw [upd_other _ _ hk'] at hk
      exact ⟨(R.ow k hk).1, by have := (R.ow k hk).2; simp; omega⟩
  · by_cases hm : k < w.heap.size
    · unfold rsize; rw [heap_alloc_old w _ hm]; exact Nat.le_refl _
    · unfold rsize; rw [Array.getElem?_eq_none (xs := w.heap) (by omega)]; exact Nat.zero_le _
/-- a map is written -/
theorem Rel.writeMap (R : Rel ren we ωe U O σ a w ω μ) {id : Nat} {es es' : List (V × V)} (hid : σ.b[id]? = some (.mp es)) {arr' : Array MapEntry} {clock' : Nat} (hr : MapRep ren w (wr U ω) es' arr') :
    Rel ren we ωe U O (σ.setB id (.mp es')) a { w with heap := w.heap.setIfInBounds (μ id) (.map arr' clock') } ω μ := by
  have hlt : id < σ.b.length := (List.getElem?_eq_some_iff.1 hid).1
  obtain ⟨e0, arr, clock, ha, _⟩ := R.ms id es hid
  have hin : μ id < w.heap.size := (Array.getElem?_eq_some_iff.1 ha).1
  generalize hw' : ({ w with heap := w.heap.setIfInBounds (μ id) (.map arr' clock') } : World) = w'
  have hw1 : w'.heap[μ id]? = some (.map arr' clock') := by subst hw'; simp [hin]
  have hw2 : ∀ k, k ≠ μ id → w'.heap[k]? = w.heap[k]? := by intro k hk; subst hw'; simp [Ne.symm hk]
  have hk : Kept (fun k => k = μ id) w w' := by subst hw'; exact ⟨rfl, rfl, rfl, by simp, fun k _ hn => by simp [Ne.symm hn]⟩
  have hcell : ∀ k o, k ≠ μ id → w'.cell? ⟨k, o, none⟩ = w.cell? ⟨k, o, none⟩ := fun k o h => World.cell?_of_block (hw2 k h)
  have hwr : ∀ o, wr U ω (μ id) o := fun o => .inr (by rw [e0]; trivial)
  have hgs : ∀ (l : Loc) β h, ω β = .gs l h → ω β = .gs l h ∧ w'.heap[β]? = w.heap[β]? := by
    intro l β h e
    exact ⟨e, hw2 β (by rintro rfl; rw [e0] at e; cases e)⟩
  have hrs : ∀ k, rsize w k ≤ rsize w' k := by
    intro k
    by_cases hm : k = μ id
    · rw [hm]; unfold rsize; rw [ha, hw1]; exact Nat.le_refl _
    · unfold rsize; rw [hw2 _ hm]; exact Nat.le_refl _
  have F : Fr (env U σ w ω μ) (env U (σ.setB id (.mp es')) w' ω μ) := by
    refine ⟨fun k o u h1 h2 => ⟨h1, ?_⟩, fun id' L hL => ⟨?_, rfl, hrs _⟩⟩
    · have : k ≠ μ id := by rintro rfl; exact h1 (hwr o)
      exact (hcell k o this).trans h2
    · have hL : blen σ.b id' = some L := hL
      show blen (σ.b.set id _) id' = some L
      unfold blen at hL ⊢
      by_cases hne : id' = id
      · subst hne
        rw [List.getElem?_set_self hlt]
        rw [hid] at hL
        simpa using hL
      · rw [List.getElem?_set_ne (fun e => hne e.symm)]; exact hL
  refine R.step F rfl (fun t j β h _ e => hgs _ β h e) (fun id' p' cs'' h' hne' => ?_) (fun id' cs'' h' => ?_) (fun id' es'' h' => ?_) hk (fun k hk1 hk2 => ?_) (fun k hk1 => ?_) hrs
  · by_cases hne : id' = id
    · subst hne
      simp only [St.setB] at h'
      rw [List.getElem?_set_self hlt] at h'
      cases h'
    · simp only [St.setB] at h'
      rw [List.getElem?_set_ne (fun e => hne e.symm)] at h'
      obtain ⟨e1, _⟩ := R.live h' hne'
      exact .inl ⟨h', e1, hw2 _ (by intro e; rw [e, e0] at e1; cases e1; exact hne rfl), fun j β h e => hgs _ β h e⟩
  · by_cases hne : id' = id
    · subst hne
      simp only [St.setB] at h'
      rw [List.getElem?_set_self hlt] at h'
      cases h'
    · simp only [St.setB] at h'
      rw [List.getElem?_set_ne (fun e => hne e.symm)] at h'
      obtain ⟨e1, _⟩ := R.fs id' cs'' h'
      exact .inl ⟨h', e1, hw2 _ (by intro e; rw [e] at e1; exact e1 0 (hwr 0))⟩
  · by_cases hne : id' = id
    · subst hne
      simp only [St.setB] at h'
      rw [List.getElem?_set_self hlt] at h'
      cases h'
      exact .inr ⟨e0, arr', clock', hw1, hr.mono F.st⟩
    · simp only [St.setB] at h'
      rw [List.getElem?_set_ne (fun e => hne e.symm)] at h'
      obtain ⟨e1, _⟩ := R.ms id' es'' h'
      exact .inl ⟨h', e1, hw2 _ (by intro e; rw [e, e0] at e1; cases e1; exact hne rfl)⟩
  · subst hk2
    rcases (R.ow (μ id) (by rw [e0]; simp)).1 with h | h
    · omega
    · exact h
  · exact ⟨(R.ow k hk1).1, Nat.lt_of_lt_of_le (R.ow k hk1).2 hk.size⟩

/-! ### the operations -/
theorem makeMap_run (t : TypeId) (w : World) : (Instr.makeMap t none).run P w = .ok (.map (some w.heap.size)) (w.alloc (.map #[] 0)) := rfl
theorem getMap_run {r : Nat} {es : Array MapEntry} {clock : Nat} (hb : w.heap[r]? = some (.map es clock)) : (getObj r).run P w = .ok (.map es clock) w := by
  simp [getObj, Sem.run, hb]
theorem setMap_run {r : Nat} {es : Array MapEntry} {clock : Nat} (o : Obj) (hb : w.heap[r]? = some (.map es clock)) : (setObj r o).run P w = .ok () { w with heap := w.heap.setIfInBounds r o } := by
  simp [setObj, Sem.run, hb]
theorem makeMap_step (R : Rel ren we ωe U O σ a w ω μ) {o : Oper} {t : TypeId} (hop : o.op = .makeMap t none) {nb : Nat} {cb : CB} {pin : Bool} {σ' : St} (h : stepK cb nb σ o.dst pin .makeMap = some σ') : StepOk P ren we ωe U O a w o σ' nb μ := by
  simp only [stepK] at h
  obtain ⟨d, hd, hg, rfl⟩ := newB_inv h
  have hlt : nb + d < σ.b.length := (List.getElem?_eq_some_iff.1 hg).1
  refine .value (u := .map (some w.heap.size)) (w' := w.alloc (.map #[] 0)) (by simp [execOp, hop, makeMap_run]) ?_
  refine ⟨_, _, (R.newMap hg).put o.dst (fun i _ => ?_), fun k hk => mu_new hk⟩
  have := Rep.mp (ren := ren) (E := env U (σ.setB (nb + d) (.mp [])) (w.alloc (.map #[] 0)) (upd ω w.heap.size (.blk (nb + d))) (upd μ (nb + d) w.heap.size)) (l := .slot i 0) (nb + d) 0 (blen_mp hlt _)
  simpa [env, upd_same] using this
theorem keyOk_rep {E : En} {l : Loc} {kd : Nat} {k : V} {u : Value} (ho : keyOk kd k = true) (h : Rep ren E l k u) : RepP ren E.w E.Wr k u := by
  unfold keyOk at ho
  split at ho
  · cases h with | pure h => exact h
  · cases h with | pure h => exact h
  · cases h with | pure h => exact h
  · cases ho
theorem zeroM_rep {Wr : Nat → Nat → Prop} {t : TypeId} {v : V} (h : zeroM P t = some v) : ∃ i zv, P.info? t = some i ∧ i.zero = some zv ∧ RepP ren w Wr v zv := by
  unfold zeroM at h
  simp only [Option.bind_eq_bind, Option.bind_eq_some_iff] at h
  obtain ⟨z, hz, b, hb, zv, ⟨i, hi, hzv⟩, h⟩ := h
  obtain ⟨i', zv', hi', hzv', hc⟩ := zeroC_rep (ren := ren) (w := w) (Wr := Wr) hz
  rw [hi] at hi'; cases hi'
  rw [hzv] at hzv'; cases hzv'
  have hd := dem_cells hc
  refine ⟨i, zv, hi, hzv, ?_⟩
  split at h
  · cases h
    have := hd.agg
    simpa [Value.cells] using this
  · cases h
  · rename_i hne
    cases h
    have e : zv.cells = #[zv] := by cases zv <;> first | rfl | exact absurd rfl (hne _)
    rw [e] at hd
    obtain ⟨u, hu, _, hr⟩ := hd.2 0 _ rfl
    simp at hu; subst hu; exact hr
  · cases h
theorem mlook_step (R : Rel ren we ωe U O σ a w ω μ) {o : Oper} {t kt e : TypeId} {x i : Operand} {ok : Bool} (hop : o.op = .lookup t x i ok) (ht : P.underlying t = some (.map kt e)) {kd : Nat} (hkd : keyC P kt = some kd) {zero : V} (hz : zeroM P e = some zero) {sx si : Src} {t1 t2 : TypeId} (hx : cSrc P ren t1 x = some sx) (hi : cSrc P ren t2 i = some si)
    {nb : Nat} {cb : CB} {pin : Bool} {σ' : St} (h : stepK cb nb σ o.dst pin (.mlook kd ok zero sx si) = some σ') : StepOk P ren we ωe U O a w o σ' nb μ := by
  simp only [stepK] at h
  split at h
  · rename_i id hgx
    split at h
    · rename_i es hes
      split at h
      · rename_i hko
        simp only [Option.bind_eq_bind, Option.bind_eq_some_iff, Option.pure_def, Option.some.injEq] at h
        obtain ⟨r, hr, rfl⟩ := h
        have rx := R.opnd hx; rw [hgx] at rx
        obtain ⟨L, _, ex⟩ := rx.mp_inv
        have ri : RepP ren w (wr U ω) (si.get σ) (a.eval i) := keyOk_rep hko (R.opnd hi)
        obtain ⟨_, arr, clock, ha, hm1, hm2⟩ := R.ms id es hes
        have ex : a.eval x = .map (some (μ id)) := ex
        obtain ⟨d, hd⟩ : ∃ d, P.underlying kt = some d := by
          unfold keyC at hkd
          simp only [Option.bind_eq_bind, Option.bind_eq_some_iff] at hkd
          exact ⟨hkd.choose, hkd.choose_spec.1⟩
        obtain ⟨iz, zv, hiz, hzv, hzr⟩ := zeroM_rep (ren := ren) (w := w) (Wr := wr U ω) hz
        have hent : ∀ (j : Nat) (e : MapEntry), arr.toList[j]? = some e → ∃ k v, es[j]? = some (k, v) ∧ RepP ren w (wr U ω) k e.key ∧ RepP ren w (wr U ω) v e.val := by
          intro j e he
          have hj : j < arr.size := by have := (List.getElem?_eq_some_iff.1 he).1; simpa using this
          have hj' : j < es.length := by omega
          obtain ⟨e', h1, h2, h3⟩ := hm2 j es[j].1 es[j].2 (List.getElem?_eq_getElem hj')
          have : e' = e := by
            rw [Array.getElem?_toList] at he
            rw [he] at h1; cases h1; rfl
          subst this
          exact ⟨_, _, List.getElem?_eq_getElem hj', h2, h3⟩
        -- the value
        have key : ∃ q : Option (Nat × Value), (Instr.findKey kt (a.eval i) arr.toList).run P w = .ok q w ∧ (match q with | some (_, v) => r.isSome = true ∧ RepP ren w (wr U ω) (r.getD zero) v | none => r = none) := by
          cases r with
          | none =>
            refine ⟨none, findKey_none hd (fun e he => ?_), rfl⟩
            obtain ⟨j, hj⟩ := List.mem_iff_getElem?.1 he
            obtain ⟨k, v, g1, g2, g3⟩ := hent j e hj
            exact (key_cmp hkd hd hko ri g2 (mfind_none hr j k v g1) w).1
          | some rv =>
            obtain ⟨j, k, g1, g2, g3⟩ := mfind_some hr
            obtain ⟨e, f1, f2, f3⟩ := hm2 j k rv g1
            refine ⟨some (j, e.val), findKey_some hd (by simpa using f1) (key_cmp hkd hd hko ri f2 g2 w).1 (fun i' e' hi' he' => ?_), rfl, f3⟩
            obtain ⟨k', v', q1, q2, q3⟩ := hent i' e' he'
            exact (key_cmp hkd hd hko ri q2 (g3 i' k' v' hi' q1) w).1
        obtain ⟨q, hq1, hq2⟩ := key
        have fin : ∃ uv : Value, ∃ ub : Bool, (execOp a.eval o).run P w = .ok (.value (if ok then .tuple #[uv, .bool ub] else uv)) w ∧ RepP ren w (wr U ω) (r.getD zero) uv ∧ ub = r.isSome := by
          cases q with
          | none =>
            have hq2 : r = none := hq2
            subst hq2
            refine ⟨zv, false, ?_, hzr, rfl⟩
            simp [execOp, hop, ex, Instr.lookup, run_underlying ht, getMap_run ha, key_check hkd hko ri, hq1, zeroValue, typeInfo, hiz, hzv, Result.andThen_ok]
          | some p =>
            obtain ⟨j, v⟩ := p
            obtain ⟨g1, g2⟩ := hq2
            refine ⟨v, true, ?_, g2, g1.symm⟩
            simp [execOp, hop, ex, Instr.lookup, run_underlying ht, getMap_run ha, key_check hkd hko ri, hq1, Result.andThen_ok]
        obtain ⟨uv, ub, f1, f2, f3⟩ := fin
        refine .value f1 ⟨ω, μ, R.put _ (fun s _ => ?_), fun _ _ => rfl⟩
        subst f3
        cases ok with
        | false => exact .pure f2
        | true =>
          refine .tup _ [uv, .bool r.isSome] rfl (fun j v u hv hu => ?_)
          match j with
          | 0 => simp at hv hu; subst hv; subst hu; exact .pure f2
          | 1 => simp at hv hu; subst hv; subst hu; exact .pure (.sc _ rfl)
          | j + 2 => simp at hv
      · cases h
    · cases h
  · cases h
theorem lenM_step (R : Rel ren we ωe U O σ a w ω μ) {o : Oper} {t kt e : TypeId} {x : Operand} (hop : o.op = .call { callee := .builtin .len, args := #[x], argTypes := #[t] }) (ht : P.underlying t = some (.map kt e)) {sx : Src} {t1 : TypeId} (hx : cSrc P ren t1 x = some sx)
    {nb : Nat} {cb : CB} {pin : Bool} {σ' : St} (h : stepK cb nb σ o.dst pin (.lenM sx) = some σ') : StepOk P ren we ωe U O a w o σ' nb μ := by
  simp only [stepK] at h
  split at h
  · rename_i id hgx
    split at h
    · rename_i es hes
      cases h
      have rx := R.opnd hx; rw [hgx] at rx
      obtain ⟨L, _, ex⟩ := rx.mp_inv
      have ex : a.eval x = .map (some (μ id)) := ex
      obtain ⟨_, arr, clock, ha, hm1, hm2⟩ := R.ms id es hes
      refine .value (u := .int .i64 es.length) (w' := w) ?_ ⟨ω, μ, R.put _ (fun s _ => .pure (.sc _ rfl)), fun _ _ => rfl⟩
      simp [execOp, hop, resolve, invoke, builtin, Builtin.len_, run_underlying ht, ex, getMap_run ha, goInt, hm1, Result.andThen_ok]
    · cases h
  · cases h
theorem mput_step (R : Rel ren we ωe U O σ a w ω μ) {o : Oper} {t kt e : TypeId} {x i y : Operand} (hop : o.op = .mapUpdate t x i y ∨ o.op = .insert t x i y) (ht : P.underlying t = some (.map kt e)) {kd : Nat} (hkd : keyC P kt = some kd) {sx si sy : Src} {t1 t2 t3 : TypeId} (hx : cSrc P ren t1 x = some sx) (hi : cSrc P ren t2 i = some si) (hy : cSrc P ren t3 y = some sy)
    {nb : Nat} {cb : CB} {pin : Bool} {σ' : St} (h : stepK cb nb σ o.dst pin (.mput kd sx si sy) = some σ') : StepOk P ren we ωe U O a w o σ' nb μ := by
  simp only [stepK] at h
  split at h
  · cases h
  rename_i hdst
  have hdst : o.dst = none := by simpa using hdst
  split at h
  · rename_i id hgx
    split at h
    · rename_i es hes
      split at h
      · rename_i hko
        simp only [Option.bind_eq_bind, Option.bind_eq_some_iff, Option.pure_def, Option.some.injEq] at h
        obtain ⟨val, hval, es', hset, rfl⟩ := h
        have rx := R.opnd hx; rw [hgx] at rx
        obtain ⟨L, _, ex⟩ := rx.mp_inv
        have ri : RepP ren w (wr U ω) (si.get σ) (a.eval i) := keyOk_rep hko (R.opnd hi)
        have ry : RepP ren w (wr U ω) val (a.eval y) := (R.opnd hy).plain R.hU hval
        obtain ⟨_, arr, clock, ha, hm1, hm2⟩ := R.ms id es hes
        have ex : a.eval x = .map (some (μ id)) := ex
        obtain ⟨d, hd⟩ : ∃ d, P.underlying kt = some d := by
          unfold keyC at hkd
          simp only [Option.bind_eq_bind, Option.bind_eq_some_iff] at hkd
          exact ⟨hkd.choose, hkd.choose_spec.1⟩
        have hent : ∀ (j : Nat) (e : MapEntry), arr.toList[j]? = some e → ∃ k v, es[j]? = some (k, v) ∧ RepP ren w (wr U ω) k e.key ∧ RepP ren w (wr U ω) v e.val := by
          intro j e he
          have hj : j < arr.size := by have := (List.getElem?_eq_some_iff.1 he).1; simpa using this
          have hj' : j < es.length := by omega
          obtain ⟨e', h1, h2, h3⟩ := hm2 j es[j].1 es[j].2 (List.getElem?_eq_getElem hj')
          have : e' = e := by
            rw [Array.getElem?_toList] at he
            rw [he] at h1; cases h1; rfl
          subst this
          exact ⟨_, _, List.getElem?_eq_getElem hj', h2, h3⟩
        have fin : ∃ arr' clock', (execOp a.eval o).run P w = .ok .skip { w with heap := w.heap.setIfInBounds (μ id) (.map arr' clock') } ∧ MapRep ren w (wr U ω) es' arr' := by
          rcases mset_spec hset with ⟨g1, rfl⟩ | ⟨j, k, r, g1, g2, g3, rfl⟩
          · have hq : (Instr.findKey kt (a.eval i) arr.toList).run P w = .ok none w := findKey_none hd (fun e he => by
              obtain ⟨j, hj⟩ := List.mem_iff_getElem?.1 he
              obtain ⟨k, v, q1, q2, q3⟩ := hent j e hj
              exact (key_cmp hkd hd hko ri q2 (g1 j k v q1) w).1)
            refine ⟨arr.push { key := a.eval i, val := a.eval y, born := clock }, clock + 1, ?_, by simp [hm1], fun j k v hj => ?_⟩
            · rcases hop with hop | hop <;> simp [execOp, hop, ex, Instr.mapUpdate, run_underlying ht, getMap_run ha, key_check hkd hko ri, hq, setMap_run _ ha, Result.andThen_ok]
            · by_cases hlt : j < es.length
              · rw [List.getElem?_append_left hlt] at hj
                obtain ⟨e, f1, f2, f3⟩ := hm2 j k v hj
                exact ⟨e, by rw [Array.getElem?_push, if_neg (by omega)]; exact f1, f2, f3⟩
              · rw [List.getElem?_append_right (by omega)] at hj
                have hj0 : j = es.length := by
                  have := (List.getElem?_eq_some_iff.1 hj).1
                  simp at this; omega
                subst hj0
                simp at hj
                obtain ⟨rfl, rfl⟩ := hj
                exact ⟨_, by rw [Array.getElem?_push, if_pos hm1.symm], ri, ry⟩
          · obtain ⟨e, f1, f2, f3⟩ := hm2 j k r g1
            have hkc := key_cmp hkd hd hko ri f2 g2 w
            have hq : (Instr.findKey kt (a.eval i) arr.toList).run P w = .ok (some (j, e.val)) w := findKey_some hd (by simpa using f1) hkc.1 (fun i' e' hi' he' => by
              obtain ⟨k', v', q1, q2, q3⟩ := hent i' e' he'
              exact (key_cmp hkd hd hko ri q2 (g3 i' k' v' hi' q1) w).1)
            have hst : (Instr.keyThatStays e.key (a.eval i)).run P w = .ok (a.eval i) w := by
              simp [Instr.keyThatStays, hkc.2 rfl]
            have hjl : j < es.length := (List.getElem?_eq_some_iff.1 g1).1
            refine ⟨arr.modify j fun e => { e with key := a.eval i, val := a.eval y }, clock, ?_, by simp [hm1], fun j' k' v' hj' => ?_⟩
            · rcases hop with hop | hop <;> simp [execOp, hop, ex, Instr.mapUpdate, run_underlying ht, getMap_run ha, key_check hkd hko ri, hq, f1, hst, setMap_run _ ha, Result.andThen_ok]
            · by_cases hjj : j' = j
              · subst hjj
                rw [List.getElem?_set_self hjl] at hj'
                cases hj'
                exact ⟨{ e with key := a.eval i, val := a.eval y }, by rw [Array.getElem?_modify, if_pos rfl, f1]; rfl, ri, ry⟩
              · rw [List.getElem?_set_ne (fun e => hjj e.symm)] at hj'
                obtain ⟨e', q1, q2, q3⟩ := hm2 j' k' v' hj'
                exact ⟨e', by rw [Array.getElem?_modify, if_neg (fun e => hjj e.symm)]; exact q1, q2, q3⟩
        obtain ⟨arr', clock', f1, f2⟩ := fin
        refine .skip f1 ⟨ω, μ, ?_, fun _ _ => rfl⟩
        rw [hdst]
        exact R.writeMap hes f2
      · cases h
    · cases h
  · cases h
end Go.Proofs.Ythplooifbkopgaa
