/- Equality of structs and arrays, cell by cell; all operations that only compute. -/
import Derived.Test.YthplooifbkopgaaE8
import Derived.ChangeKeysEq
namespace Go.Proofs.Ythplooifbkopgaa
set_option linter.unusedVariables false
set_option linter.unusedSimpArgs false
variable {ren : Nat → Option Nat} {we : World} {ωe : Nat → Ow} {U : Nat → Nat → Prop} {O : Nat → Prop} {σ : St} {a : Act} {w : World} {ω : Nat → Ow} {μ : Nat → Nat} {P : Program}

def eqV : List Value → List Value → Option Bool
  | [], [] => some true
  | .int k a :: xs, .int k' b :: ys => if k = k' then (eqV xs ys).map (fun r => (a == b) && r) else none
  | _, _ => none
theorem eqV_cons {x y : Value} {xs ys : List Value} {r : Bool} (h : eqV (x :: xs) (y :: ys) = some r) : ∃ r1 r2, eqV [x] [y] = some r1 ∧ eqV xs ys = some r2 ∧ r = (r1 && r2) := by
  unfold eqV at h
  split at h
  · simp_all
  · rename_i e1 e2
    cases e1; cases e2
    split at h
    · rename_i hk
      simp only [Option.map_eq_some_iff] at h
      obtain ⟨r2, h2, rfl⟩ := h
      exact ⟨_, r2, by simp only [eqV, hk, if_true, Option.map_some]; rfl, h2, by simp⟩
    · cases h
  · cases h
theorem eqV_len : ∀ {xs ys : List Value} {r : Bool}, eqV xs ys = some r → xs.length = ys.length
  | [], [], _, _ => rfl
  | x :: xs, y :: ys, r, h => by
    obtain ⟨_, r2, _, h2, _⟩ := eqV_cons h
    simp [eqV_len h2]
  | [], y :: ys, r, h => by simp [eqV] at h
  | x :: xs, [], r, h => by simp [eqV] at h
theorem eqV_one {x y : Value} {r1 r2 : Bool} {xs ys : List Value} (h1 : eqV [x] [y] = some r1) (h2 : eqV xs ys = some r2) : eqV (x :: xs) (y :: ys) = some (r1 && r2) := by
  unfold eqV at h1
  split at h1
  · simp_all
  · rename_i e1 e2
    cases e1; cases e2
    split at h1
    · rename_i hk
      simp [eqV] at h1
      subst h1
      simp [eqV, hk, h2]
    · cases h1
  · cases h1
theorem eqV_split : ∀ (n : Nat) {xs ys : List Value} {r : Bool}, eqV xs ys = some r → n ≤ xs.length → ∃ r1 r2, eqV (xs.take n) (ys.take n) = some r1 ∧ eqV (xs.drop n) (ys.drop n) = some r2 ∧ r = (r1 && r2)
  | 0, xs, ys, r, h, _ => ⟨true, r, by simp [eqV], by simpa using h, by simp⟩
  | n + 1, [], ys, r, h, hn => by simp at hn
  | n + 1, x :: xs, [], r, h, hn => by simp [eqV] at h
  | n + 1, x :: xs, y :: ys, r, h, hn => by
    obtain ⟨r1, r2, h1, h2, rfl⟩ := eqV_cons h
    obtain ⟨s1, s2, g1, g2, rfl⟩ := eqV_split n h2 (by simpa using hn)
    exact ⟨r1 && s1, s2, by simpa using eqV_one h1 g1, by simpa using g2, by simp [Bool.and_assoc]⟩
theorem eqCells_V {Wr : Nat → Nat → Prop} : ∀ {cs ds : List V} {us vs : List Value} {r : Bool}, eqCells cs ds = some r → CellsP ren w Wr cs us → CellsP ren w Wr ds vs → eqV us vs = some r
  | [], [], us, vs, r, h, h1, h2 => by
    have e1 := h1.1; have e2 := h2.1
    cases us with
    | cons _ _ => simp at e1
    | nil => cases vs with
      | cons _ _ => simp at e2
      | nil => exact h
  | [], d :: ds, us, vs, r, h, h1, h2 => by simp [eqCells] at h
  | c :: cs, [], us, vs, r, h, h1, h2 => by unfold eqCells at h; split at h <;> simp_all
  | c :: cs, d :: ds, [], vs, r, h, h1, h2 => by have := h1.1; simp at this
  | c :: cs, d :: ds, u :: us, [], r, h, h1, h2 => by have := h2.1; simp at this
  | c :: cs, d :: ds, u :: us, v :: vs, r, h, h1, h2 => by
    have t1 : CellsP ren w Wr cs us := ⟨by simpa using h1.1, fun i c hc => by simpa using h1.2 (i + 1) c (by simpa using hc)⟩
    have t2 : CellsP ren w Wr ds vs := ⟨by simpa using h2.1, fun i c hc => by simpa using h2.2 (i + 1) c (by simpa using hc)⟩
    obtain ⟨x, hx, _, hx'⟩ := h1.2 0 c rfl
    obtain ⟨y, hy, _, hy'⟩ := h2.2 0 d rfl
    simp at hx hy; subst hx; subst hy
    unfold eqCells at h
    split at h
    · simp_all
    · rename_i e1 e2
      cases e1; cases e2
      cases hx'; cases hy'
      split at h
      · rename_i hk
        simp only [Option.map_eq_some_iff] at h
        obtain ⟨r2, g2, rfl⟩ := h
        simp [eqV, hk, eqCells_V g2 t1 t2]
      · cases h
    · cases h

/-- a value of a type, out of its cells -/
def OfCells (P : Program) (t : TypeId) (us : List Value) (x : Value) : Prop := (aggT P t = some true ∧ x = .agg us.toArray) ∨ (aggT P t = some false ∧ us = [x])
def EqRun (P : Program) (dd : Nat) (t : TypeId) (n : Nat) : Prop :=
  ∀ (w : World) (us vs : List Value) (x y : Value) (r : Bool), us.length = n → vs.length = n → OfCells P t us x → OfCells P t vs y → eqV us vs = some r → (Op.equalIn dd t x y).run P w = .ok r w
theorem part_of {t : TypeId} {b : Bool} {n : Nat} (h1 : aggT P t = some b) (h2 : sizeT P t = some n) (hn : b = false → n = 1) {xs : List Value} {off : Nat} (hl : off + n ≤ xs.length) (w : World) : ∃ x, (part t xs.toArray off).run P w = .ok x w ∧ OfCells P t ((xs.drop off).take n) x := by
  rw [run_part h1 h2]
  cases b
  · have hn1 := hn rfl
    subst hn1
    have hlt : off < xs.length := by omega
    rw [List.getElem?_eq_getElem hlt]
    refine ⟨xs[off], rfl, .inr ⟨h1, ?_⟩⟩
    rw [List.drop_eq_getElem_cons hlt]; rfl
  · exact ⟨_, rfl, .inl ⟨h1, rfl⟩⟩
theorem eqSize_agg {d : Nat} {t : TypeId} {n : Nat} (h : eqSize P d t = some n) : ∃ b, aggT P t = some b ∧ (b = false → n = 1) := by
  cases d with
  | zero => cases h
  | succ d =>
    unfold eqSize at h
    split at h
    · rename_i hu; split at h <;> cases h; exact ⟨false, by simp [aggT, hu], fun _ => rfl⟩
    · rename_i hu; exact ⟨true, by simp [aggT, hu], by simp⟩
    · rename_i hu; exact ⟨true, by simp [aggT, hu], by simp⟩
    · cases h
theorem eqFields_run {dd d : Nat} (IH : ∀ t n, eqSize P d t = some n → EqRun P dd t n) (xs ys : List Value) (w : World) : ∀ (fs : List Field) (off n : Nat) (r : Bool), eqFieldsTo P (eqSize P d) fs off = some n → xs.length = n → ys.length = n → eqV (xs.drop off) (ys.drop off) = some r →
    (Op.eqFields dd xs.toArray ys.toArray fs).run P w = .ok r w
  | [], off, n, r, h, hx, hy, he => by
    cases h
    rw [List.drop_of_length_le (by omega), List.drop_of_length_le (by omega)] at he
    cases he
    simp [Op.eqFields]
  | f :: fs, off, n, r, h, hx, hy, he => by
    simp only [eqFieldsTo, Option.bind_eq_bind, Option.bind_eq_some_iff] at h
    obtain ⟨s, hs, h⟩ := h
    split at h
    · rename_i hc
      obtain ⟨hname, hoff, hsz⟩ := hc
      have hmono : ∀ (fs : List Field) (o n : Nat), eqFieldsTo P (eqSize P d) fs o = some n → o ≤ n := by
        intro fs
        induction fs with
        | nil => intro o n h; cases h; exact Nat.le_refl _
        | cons g gs ih =>
          intro o n h
          simp only [eqFieldsTo, Option.bind_eq_bind, Option.bind_eq_some_iff] at h
          obtain ⟨s', _, h⟩ := h
          split at h
          · have := ih _ _ h; omega
          · cases h
      have hle := hmono _ _ _ h
      obtain ⟨b, hb, hb1⟩ := eqSize_agg hs
      obtain ⟨x, px, ox⟩ := part_of hb hsz hb1 (xs := xs) (off := off) (by omega) w
      obtain ⟨y, py, oy⟩ := part_of hb hsz hb1 (xs := ys) (off := off) (by omega) w
      obtain ⟨r1, r2, g1, g2, rfl⟩ := eqV_split s he (by simp; omega)
      have hq := IH f.type s hs w _ _ x y r1 (by simp; omega) (by simp; omega) ox oy g1
      have hrest := eqFields_run IH xs ys w fs (off + s) n r2 h hx hy (by rw [← List.drop_drop, ← List.drop_drop]; exact g2)
      simp only [Op.eqFields, ne_eq, hname, not_false_eq_true, if_true, Sem.run_bind, hoff, px, py, hq, Result.andThen_ok]
      cases r1
      · simp
      · simpa using hrest
    · cases h
theorem eqItems_run {dd : Nat} {e : TypeId} {s : Nat} (IH : EqRun P dd e s) {b : Bool} (hb : aggT P e = some b) (hb1 : b = false → s = 1) (hsz : sizeT P e = some s) (xs ys : List Value) (w : World) : ∀ (k i : Nat) (r : Bool), xs.length = (i + k) * s → ys.length = (i + k) * s → eqV (xs.drop (i * s)) (ys.drop (i * s)) = some r →
    (Op.eqItems dd e s xs.toArray ys.toArray (List.range' i k)).run P w = .ok r w
  | 0, i, r, hx, hy, he => by
    rw [List.drop_of_length_le (by rw [hx]; simp), List.drop_of_length_le (by rw [hy]; simp)] at he
    cases he
    simp [Op.eqItems]
  | k + 1, i, r, hx, hy, he => by
    have hm : (i + (k + 1)) * s = i * s + s + k * s := by simp only [Nat.add_mul, Nat.one_mul]; omega
    obtain ⟨x, px, ox⟩ := part_of hb hsz hb1 (xs := xs) (off := i * s) (by omega) w
    obtain ⟨y, py, oy⟩ := part_of hb hsz hb1 (xs := ys) (off := i * s) (by omega) w
    obtain ⟨r1, r2, g1, g2, rfl⟩ := eqV_split s he (by simp; omega)
    have hq := IH w _ _ x y r1 (by simp; omega) (by simp; omega) ox oy g1
    have hd : (i + 1) * s = i * s + s := by simp [Nat.add_mul]
    have hrest := eqItems_run IH hb hb1 hsz xs ys w k (i + 1) r2 (by rw [hx]; congr 1; omega) (by rw [hy]; congr 1; omega) (by rw [hd, ← List.drop_drop, ← List.drop_drop]; exact g2)
    rw [List.range'_succ]
    simp only [Op.eqItems, Sem.run_bind, px, py, hq, Result.andThen_ok]
    cases r1
    · simp
    · simpa using hrest
theorem eq_run (m : Nat) : ∀ (d : Nat) (t : TypeId) (n : Nat), eqSize P d t = some n → EqRun P (m + d) t n
  | 0, t, n, h => by cases h
  | d + 1, t, n, h => by
    have hagg := eqSize_agg h
    intro w us vs x y r hu hv ox oy he
    unfold eqSize at h
    split at h
    · rename_i k hd
      split at h <;> cases h
      rcases ox with ⟨g, _⟩ | ⟨_, rfl⟩
      · simp [aggT, hd] at g
      rcases oy with ⟨g, _⟩ | ⟨_, rfl⟩
      · simp [aggT, hd] at g
      unfold eqV at he
      split at he
      · simp_all
      · rename_i e1 e2
        cases e1; cases e2
        split at he
        · rename_i hk
          subst hk
          simp [eqV] at he
          subst he
          exact run_equalIn_int w (m + d) t _ _ _ _ hd
        · cases he
      · cases he
    · rename_i len e hd
      simp only [Option.bind_eq_bind, Option.bind_eq_some_iff] at h
      obtain ⟨s, hs, h⟩ := h
      split at h
      · rename_i hsz
        cases h
        rcases ox with ⟨_, rfl⟩ | ⟨g, _⟩
        · rcases oy with ⟨_, rfl⟩ | ⟨g, _⟩
          · obtain ⟨i, hi, hi'⟩ := sizeT_info hsz
            obtain ⟨b, hb, hb1⟩ := eqSize_agg hs
            show (Op.equalIn (m + d + 1) t _ _).run P w = _
            rw [run_equalIn_array w (m + d) _ _ hd hi]
            have hc : P.cellsOf e = s := by simp [Program.cellsOf, hi, hi']
            rw [hc, List.range_eq_range']
            exact eqItems_run (eq_run m d e s hs) hb hb1 hsz us vs w len 0 r (by simpa using hu) (by simpa using hv) (by simpa using he)
          · simp [aggT, hd] at g
        · simp [aggT, hd] at g
      · cases h
    · rename_i fs hd
      split at h
      · cases h
      · rename_i hst
        rcases ox with ⟨_, rfl⟩ | ⟨g, _⟩
        · rcases oy with ⟨_, rfl⟩ | ⟨g, _⟩
          · have hf : P.fieldsOf t = fs := by simp [Program.fieldsOf, hd]
            show (Op.equalIn (m + d + 1) t _ _).run P w = _
            rw [run_equalIn_struct w (m + d) t _ _ (by rw [hf]; exact hd) (by simpa using hst), hf]
            exact eqFields_run (fun t n h => eq_run m d t n h) us vs w fs.toList 0 n r h hu hv (by simpa using he)
          · simp [aggT, hd] at g
        · simp [aggT, hd] at g
    · cases h
theorem eqAgg_ok (R : Rel ren we ωe U O σ a w ω μ) {o : Oper} {op : BinOp} {t t' : TypeId} {x y : Operand} (hop : o.op = .binOp op t x y t') (ho : op = .eql ∨ op = .neq) {n : Nat} (hs : eqSize P 20 t = some n) (hb : aggT P t = some true) (hg : P.eqGuardType P.depth t = false) {sx sy : Src} {t1 t2 : TypeId} (h1 : cSrc P ren t1 x = some sx) (h2 : cSrc P ren t2 y = some sy)
    {v : V} (hp : pureK σ (.eqAgg (op == .neq) n sx sy) = some v) : Gives P ren (env U σ w ω μ) a o v := by
  simp only [pureK] at hp
  split at hp
  · rename_i p q hx hy
    split at hp
    · rename_i hl
      simp only [Option.map_eq_some_iff] at hp
      obtain ⟨r, hr, rfl⟩ := hp
      have ex := R.opnd h1; rw [hx] at ex
      have ey := R.opnd h2; rw [hy] at ey
      obtain ⟨us, eu, hu⟩ := CellsP.of_agg ex.agg_eq
      obtain ⟨vs, ev, hv⟩ := CellsP.of_agg ey.agg_eq
      have hq := eq_run 9980 20 t n hs w us vs (.agg us.toArray) (.agg vs.toArray) r (by rw [← hu.1]; exact hl.1) (by rw [← hv.1]; exact hl.2) (.inl ⟨hb, rfl⟩) (.inl ⟨hb, rfl⟩) (eqCells_V hr hu hv)
      have hq : (Op.equalIn 10000 t (.agg us.toArray) (.agg vs.toArray)).run P w = .ok r w := hq
      rcases ho with rfl | rfl
      · refine ⟨.bool r, ?_, fun l => .pure (.sc _ rfl)⟩
        show (execOp a.eval o).run P w = _
        simp only [execOp, hop, eu, ev, Sem.run_bind, run_eqGuard_agg w .eql t x y _ _ hg, run_eql_struct w, hq, Result.andThen_ok, Sem.run_pure]
        rfl
      · refine ⟨.bool (!r), ?_, fun l => .pure (.sc _ rfl)⟩
        show (execOp a.eval o).run P w = _
        simp only [execOp, hop, eu, ev, Sem.run_bind, run_eqGuard_agg w .neq t x y _ _ hg, run_neq_struct w, hq, Result.andThen_ok, Sem.run_pure]
        rfl
    · cases hp
  · cases hp
theorem cArgs_rep (R : Rel ren we ωe U O σ a w ω μ) : ∀ (xs : List Operand) (ts : List TypeId) (ss : List Src), cArgs P ren xs ts = some ss → xs.length = ss.length ∧ ∀ (i : Nat) (s : Src), ss[i]? = some s → ∃ x ty, xs[i]? = some x ∧ cSrc P ren ty x = some s
  | [], ts, ss, h => by cases h; exact ⟨rfl, by simp⟩
  | x :: xs, ts, ss, h => by
    simp only [cArgs, Option.bind_eq_bind, Option.bind_eq_some_iff, Option.pure_def, Option.some.injEq] at h
    obtain ⟨s, hs, rest, hr, rfl⟩ := h
    obtain ⟨e, ih⟩ := cArgs_rep R xs ts.tail rest hr
    refine ⟨by simp [e], fun i s' hi => ?_⟩
    cases i with
    | zero => simp at hi; subst hi; exact ⟨x, _, rfl, hs⟩
    | succ i => simp at hi; simpa using ih i s' hi
theorem makeFunc_ok (R : Rel ren we ωe U O σ a w ω μ) {o : Oper} {f : FuncId} {caps : Array Operand} (hop : o.op = .makeFunc (.func f) #[] caps) {g : Nat} (hg : ren f = some g) {ss : List Src} (hs : cArgs P ren caps.toList [] = some ss)
    {v : V} (hp : pureK σ (.makeFunc g ss) = some v) : Gives P ren (env U σ w ω μ) a o v := by
  simp only [pureK] at hp
  split at hp
  · rename_i hall
    cases hp
    obtain ⟨hl, hc⟩ := cArgs_rep R _ _ _ hs
    refine ⟨.func (.func f) #[] (caps.toList.map a.eval).toArray, ?_, fun l => .fn f g _ (caps.toList.map a.eval) hg (by simp [hl]) (fun i c hi => ?_)⟩
    · show (execOp a.eval o).run P w = .ok _ w
      simp only [execOp, hop, Instr.makeFunc, Sem.run_bind, Sem.run_pure, Result.andThen_ok]
      congr 3
      all_goals (apply Array.ext'; simp)
    · rw [List.getElem?_map] at hi
      cases hsi : ss[i]? with
      | none => simp [hsi] at hi
      | some s =>
        simp [hsi] at hi
        obtain ⟨x, ty, hx, hsx⟩ := hc i s hsi
        have hr := R.opnd hsx
        rw [List.all_eq_true] at hall
        have := hall s (List.mem_of_getElem? hsi)
        cases hv : s.get σ with
        | ptr id off =>
          rw [hv] at hr hi
          obtain ⟨L, hL, e⟩ := hr.ptr_inv
          exact ⟨id, off, L, hi.symm, hL, by rw [List.getElem?_map, hx]; simp [e]⟩
        | _ => simp [hv, isPtr] at this
  · cases hp

theorem array_of_list {α : Type} {xs : Array α} {l : List α} (h : xs.toList = l) : xs = l.toArray := by rw [← h]
theorem builtin_pure (R : Rel ren we ωe U O σ a w ω μ) {o : Oper} {b : Builtin} {args : Array Operand} {ats : Array TypeId} (hop : o.op = .call { callee := .builtin b, args := args, argTypes := ats }) {k : K} (hk : cBuiltin P ren b args.toList ats.toList = some k) {v : V} (hp : pureK σ k = some v) : Gives P ren (env U σ w ω μ) a o v := by
  unfold cBuiltin at hk
  split at hk <;> (try simp only [Option.bind_eq_bind, Option.bind_eq_some_iff, Option.some.injEq] at hk)
  · rename_i e1 e2
    obtain rfl := array_of_list e1
    obtain rfl := array_of_list e2
    obtain ⟨d, hd, hk⟩ := hk
    split at hk <;> (try simp only [Option.bind_eq_some_iff, Option.some.injEq] at hk)
    · obtain ⟨s1, h1, rfl⟩ := hk; exact lenS_ok R hop hd h1 hp
    · obtain ⟨s1, h1, rfl⟩ := hk; exact lenT_ok R hop hd h1 hp
    · subst hk; exact lenA_ok hop hd hp
    · obtain ⟨s1, h1, rfl⟩ := hk; cases hp
    · cases hk
  · obtain ⟨d1, _, d2, _, hk⟩ := hk
    split at hk <;> (try simp only [Option.bind_eq_some_iff] at hk)
    · obtain ⟨_, _, _, _, _, _, hk⟩ := hk
      split at hk
      · simp only [Option.bind_eq_some_iff, Option.some.injEq] at hk; obtain ⟨_, _, _, _, rfl⟩ := hk; cases hp
      · cases hk
    · obtain ⟨_, _, _, _, _, _, hk⟩ := hk
      split at hk
      · simp only [Option.bind_eq_some_iff, Option.some.injEq] at hk; obtain ⟨_, _, _, _, rfl⟩ := hk; cases hp
      · cases hk
    · cases hk
  · obtain ⟨d1, _, d2, _, hk⟩ := hk
    split at hk <;> (try simp only [Option.bind_eq_some_iff] at hk)
    · obtain ⟨_, _, hk⟩ := hk
      split at hk
      · simp only [Option.bind_eq_some_iff, Option.some.injEq] at hk; obtain ⟨_, _, _, _, rfl⟩ := hk; cases hp
      · cases hk
    · cases hk
  · obtain ⟨d1, _, hk⟩ := hk
    split at hk <;> (try simp only [Option.bind_eq_some_iff] at hk)
    · obtain ⟨_, _, _, _, hk⟩ := hk
      split at hk
      · simp only [Option.bind_eq_some_iff, Option.some.injEq] at hk; obtain ⟨_, _, rfl⟩ := hk; cases hp
      · cases hk
    · cases hk
  · rename_i e1
    obtain rfl := array_of_list e1
    obtain ⟨s1, h1, s2, h2, rfl⟩ := hk; exact mm_ok (isMax := false) R hop h1 h2 hp
  · rename_i e1
    obtain rfl := array_of_list e1
    obtain ⟨s1, h1, s2, h2, rfl⟩ := hk; exact mm_ok (isMax := true) R hop h1 h2 hp
  · cases hk
theorem pull_ok (R : Rel ren we ωe U O σ a w ω μ) {o : Oper} {x : Operand} {i : Nat} (hop : o.op = .extract x i) {s : Src} {t1 : TypeId} (hs : cSrc P ren t1 x = some s) {v : V} (hp : pureK σ (.pull s i) = some v) : Gives P ren (env U σ w ω μ) a o v := by
  simp only [pureK] at hp
  split at hp
  · rename_i vs hg
    split at hp
    · rename_i v' hvi
      split at hp
      · cases hp
      · cases hp
        have hr := R.opnd hs
        rw [hg] at hr
        obtain ⟨us, eu, hl, hel⟩ := hr.tup_inv
        have hlt : i < vs.length := (List.getElem?_eq_some_iff.1 hvi).1
        have hui : us[i]? = some us[i] := List.getElem?_eq_getElem (by omega)
        exact ⟨us[i], by simp [execOp, hop, eu, Instr.extract, hui], fun l => (hel i v' us[i] hvi hui).dem R.hU l⟩
    · cases hp
  · cases hp
/-- whatever only computes: its value -/
theorem pure_ok (R : Rel ren we ωe U O σ a w ω μ) {o : Oper} {take : Bool} {xs : List Nat} {k : K} (hk : cK P ren o take xs = some k) {v : V} (hp : pureK σ k = some v) : Gives P ren (env U σ w ω μ) a o v := by
  have hk0 := hk
  unfold cK at hk
  split at hk <;> (try simp only [Option.bind_eq_bind, Option.bind_eq_some_iff, Option.some.injEq] at hk)
  · rcases moveK_inv _ _ hk with ⟨_, _, _, rfl⟩ | ⟨_, _, rfl⟩ <;> cases hp
  · rcases moveK_inv _ _ hk with ⟨_, _, _, rfl⟩ | ⟨_, _, rfl⟩ <;> cases hp
  · rename_i hop; obtain ⟨s1, h1, s2, h2, s3, h3, rfl⟩ := hk; exact pick_ok R hop h1 h2 h3 hp
  · obtain ⟨s, _, rfl⟩ := hk; cases hp
  · obtain ⟨s, _, _, _, rfl⟩ := hk; cases hp
  · rename_i hop; exact build_ok R hop hk0 hp
  · obtain ⟨d, hd, hk⟩ := hk
    split at hk <;> (try simp only [Option.bind_eq_some_iff] at hk)
    · obtain ⟨z, _, sz, _, hk⟩ := hk
      split at hk
      · simp only [Option.bind_eq_some_iff, Option.some.injEq] at hk; obtain ⟨_, _, rfl⟩ := hk; cases hp
      · cases hk
    · cases hk
  · obtain ⟨_, _, _, _, _, _, rfl⟩ := hk; cases hp
  · obtain ⟨_, _, _, _, _, _, rfl⟩ := hk; cases hp
  · rename_i hop; obtain ⟨s1, h1, rfl⟩ := hk; exact nilCheck_ok R hop h1 hp
  · rename_i op t x y t' hop
    obtain ⟨d, hd, hk⟩ := hk
    split at hk <;> (try simp only [Option.bind_eq_some_iff, Option.some.injEq] at hk)
    · obtain ⟨s1, h1, s2, h2, rfl⟩ := hk; exact bin_ok R hop h1 h2 hp
    · obtain ⟨s1, h1, s2, h2, rfl⟩ := hk; exact bin_ok R hop h1 h2 hp
    · split at hk
      · split at hk
        · rename_i ho
          simp only [Option.bind_eq_some_iff, Option.some.injEq] at hk
          obtain ⟨s1, h1, rfl⟩ := hk
          exact nilT_ok R hop hd (by simpa using ho) h1 hp
        · cases hk
      · cases hk
    · split at hk
      · rename_i ho
        simp only [Option.bind_eq_some_iff, Option.some.injEq] at hk
        obtain ⟨s1, h1, s2, h2, rfl⟩ := hk
        exact eqB_ok R hop hd (by simpa using ho) h1 h2 hp
      · cases hk
    · split at hk
      · rename_i fs ho
        simp only [Option.bind_eq_some_iff, Option.some.injEq] at hk
        obtain ⟨s1, h1, s2, h2, rfl⟩ := hk
        simp only [Bool.and_eq_true, Bool.or_eq_true, beq_iff_eq, Bool.not_eq_true'] at ho
        obtain ⟨n, hn⟩ := Option.isSome_iff_exists.1 ho.1.1.2
        have hn' : sizeT P t = some n := by rw [← ho.1.2]; exact hn
        rw [hn'] at hp
        exact eqAgg_ok R hop ho.1.1.1 hn (by simp [aggT, hd]) ho.2 h1 h2 hp
      · cases hk
    · split at hk
      · rename_i ho
        simp only [Option.bind_eq_some_iff, Option.some.injEq] at hk
        obtain ⟨s1, h1, s2, h2, rfl⟩ := hk
        simp only [Bool.and_eq_true, Bool.or_eq_true, beq_iff_eq, Bool.not_eq_true'] at ho
        obtain ⟨n, hn⟩ := Option.isSome_iff_exists.1 ho.1.1.2
        have hn' : sizeT P t = some n := by rw [← ho.1.2]; exact hn
        rw [hn'] at hp
        exact eqAgg_ok R hop ho.1.1.1 hn (by simp [aggT, hd]) ho.2 h1 h2 hp
      · cases hk
    · cases hk
  · rename_i hop; obtain ⟨s1, h1, rfl⟩ := hk; exact un_ok R hop h1 hp
  · rename_i hop
    obtain ⟨d1, hd1, d2, hd2, hk⟩ := hk
    split at hk <;> (try simp only [Option.bind_eq_some_iff, Option.some.injEq] at hk)
    · obtain ⟨s1, h1, rfl⟩ := hk; exact conv_ok R hop hd1 hd2 h1 hp
    · obtain ⟨d3, hd3, hk⟩ := hk
      split at hk
      · simp only [Option.bind_eq_some_iff, Option.some.injEq] at hk
        obtain ⟨s1, h1, rfl⟩ := hk; exact toStr_ok R hop hd1 hd2 hd3 h1 hp
      · cases hk
    · cases hk
  · rename_i fn first caps hop
    split at hk
    · split at hk
      · rename_i h0
        simp only [Option.bind_eq_bind, Option.bind_eq_some_iff, Option.some.injEq] at hk
        obtain ⟨g, hg, ss, hs, rfl⟩ := hk
        have hf : first = #[] := by simpa using h0
        subst hf
        exact makeFunc_ok R hop hg hs hp
      · cases hk
    · cases hk
  · obtain ⟨d, hd, hk⟩ := hk
    split at hk <;> (try simp only [Option.bind_eq_some_iff] at hk)
    · obtain ⟨z, _, sz, _, i, _, hk⟩ := hk
      split at hk
      · simp only [Option.bind_eq_some_iff, Option.some.injEq] at hk; obtain ⟨_, _, _, _, rfl⟩ := hk; cases hp
      · cases hk
    · cases hk
  · rename_i hop
    split at hk
    · cases hk
    · rename_i hmx
      simp only [Option.bind_eq_bind, Option.bind_eq_some_iff] at hk
      obtain ⟨d, hd, hk⟩ := hk
      split at hk <;> (try simp only [Option.bind_eq_some_iff] at hk)
      · obtain ⟨sz, hsz, hk⟩ := hk
        split at hk
        · simp only [Option.bind_eq_some_iff, Option.some.injEq] at hk
          obtain ⟨s0, h0, s1, h1, s2, h2, s3, h3, rfl⟩ := hk
          exact sliceA_ok R hop ((Bool.not_eq_true _).mp hmx) hd hsz (by assumption) h0 h1 h2 h3 hp
        · cases hk
      · obtain ⟨sz, hsz, hk⟩ := hk
        split at hk
        · simp only [Option.bind_eq_some_iff, Option.some.injEq] at hk
          obtain ⟨s0, h0, s1, h1, s2, h2, s3, h3, rfl⟩ := hk
          exact sliceS_ok R hop ((Bool.not_eq_true _).mp hmx) hd hsz h0 h1 h2 h3 hp
        · cases hk
      · cases hk
  · rename_i hop
    obtain ⟨d, hd, hk⟩ := hk
    split at hk <;> (try simp only [Option.bind_eq_some_iff] at hk)
    · obtain ⟨f, hf, n, hn, hk⟩ := hk
      split at hk
      · cases hk
      · rename_i hn0
        simp only [Option.bind_eq_some_iff, Option.some.injEq] at hk
        obtain ⟨s1, h1, rfl⟩ := hk
        exact fieldAddr_ok R hop hd hf hn hn0 h1 hp
    · cases hk
  · rename_i hop
    obtain ⟨d, hd, hk⟩ := hk
    split at hk <;> (try simp only [Option.bind_eq_some_iff, Option.some.injEq] at hk)
    · obtain ⟨f, hf, b, hb, n, hn, s1, h1, rfl⟩ := hk
      exact field_ok R hop hd hf hb hn h1 hp
    · cases hk
  · rename_i hop
    obtain ⟨d, hd, hk⟩ := hk
    split at hk <;> (try simp only [Option.bind_eq_some_iff, Option.some.injEq] at hk)
    · obtain ⟨n, hn, s1, h1, s2, h2, rfl⟩ := hk
      exact indexAddrA_ok R hop hd hn h1 h2 hp
    · obtain ⟨sz, hsz, hk⟩ := hk
      split at hk
      · simp only [Option.bind_eq_some_iff, Option.some.injEq] at hk
        obtain ⟨s1, h1, s2, h2, rfl⟩ := hk
        exact indexAddrS_ok R hop hd hsz h1 h2 hp
      · cases hk
    · cases hk
  · rename_i hop
    obtain ⟨d, hd, hk⟩ := hk
    split at hk <;> (try simp only [Option.bind_eq_some_iff, Option.some.injEq] at hk)
    · obtain ⟨b, hb, n, hn, s1, h1, s2, h2, rfl⟩ := hk
      exact indexA_ok R hop hd hb hn h1 h2 hp
    · cases hk
  · split at hk
    · cases hk; cases hp
    · cases hk
  · obtain ⟨d, hd, hk⟩ := hk
    split at hk <;> (try simp only [Option.bind_eq_some_iff, Option.some.injEq] at hk)
    · obtain ⟨_, _, _, _, _, _, _, _, rfl⟩ := hk; cases hp
    · cases hk
  · obtain ⟨d, hd, hk⟩ := hk
    split at hk <;> (try simp only [Option.bind_eq_some_iff, Option.some.injEq] at hk)
    · obtain ⟨_, _, _, _, _, _, _, _, rfl⟩ := hk; cases hp
    · cases hk
  · obtain ⟨d, hd, hk⟩ := hk
    split at hk <;> (try simp only [Option.bind_eq_some_iff, Option.some.injEq] at hk)
    · obtain ⟨_, _, _, _, _, _, _, _, rfl⟩ := hk; cases hp
    · cases hk
  · rename_i hop
    obtain ⟨s1, h1, rfl⟩ := hk
    cases take with
    | true => cases hp
    | false => exact pull_ok R hop h1 hp
  · rename_i c hop
    obtain ⟨callee, args, ats⟩ := c
    simp only at hk
    split at hk <;> (try simp only [Option.bind_eq_bind, Option.bind_eq_some_iff, Option.some.injEq] at hk)
    · split at hk
      · rename_i hc
        split at hk
        · rename_i he
          simp only [Option.bind_eq_bind, Option.bind_eq_some_iff, Option.some.injEq] at hk
          obtain ⟨s1, h1, s2, h2, rfl⟩ := hk
          exact cmpB_ok R hop hc he h1 h2 hp
        · cases hk
      · simp only [Option.bind_eq_bind, Option.bind_eq_some_iff, Option.some.injEq] at hk
        obtain ⟨_, _, _, _, rfl⟩ := hk; cases hp
    · obtain ⟨_, _, rfl⟩ := hk; cases hp
    · exact builtin_pure R hop hk hp
    · cases hk
  · cases hk
end Go.Proofs.Ythplooifbkopgaa
