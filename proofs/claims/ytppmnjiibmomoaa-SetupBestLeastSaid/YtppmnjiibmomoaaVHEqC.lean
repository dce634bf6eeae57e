/- Equality of structs of integers. -/
import Derived.Test.YtppmnjiibmomoaaVHGen
set_option linter.unusedVariables false
set_option linter.unusedSimpArgs false
set_option linter.unusedSectionVars false
namespace Go.VI
theorem eq_int {P : Program} {w : World} {t : TypeId} (hu : P.underlying t = some (.int .i64)) (d : Nat) (a b : Int) : (Op.equalIn (d + 1) t (.int .i64 a) (.int .i64 b)).run P w = .ok (decide (a = b)) w := by
  unfold Op.equalIn
  simp only [Sem.run_bind, run_underlying hu, Result.andThen_ok, if_true, Sem.run_pure]
  congr 1
/-- how many integers a type is made of: fields from place o on -/
def eqIf (P : Program) (rec : TypeId → Option Nat) : List Field → Nat → Option Nat
  | [], o => some o
  | f :: r, o => if (decide (f.offset = o) && !(f.name == "_")) = true then (match rec f.type with
    | some n => if tSize P f.type = n then eqIf P rec r (o + n) else none
    | none => none) else none
def eqI (P : Program) : Nat → TypeId → Option Nat
  | 0, _ => none
  | d + 1, t => match P.underlying t with
    | some (.int .i64) => some 1
    | some (.struct fs) => if P.stoodInHeld t = true then none else eqIf P (eqI P d) fs.toList 0
    | _ => none
/-- integers as a value of a type -/
def iv (P : Program) (t : TypeId) (xs : List Int) : Value := match tAgg P t with
  | some true => .agg (xs.map (Value.int .i64)).toArray
  | _ => .int .i64 (xs.headD 0)
theorem part_iv {P : Program} {w : World} {t : TypeId} {d n : Nat} (h : eqI P d t = some n) (hs : tSize P t = n) (xs : List Int) (o : Nat) (ho : o + n ≤ xs.length) :
    (part t (xs.map (Value.int .i64)).toArray o).run P w = .ok (iv P t ((xs.drop o).take n)) w := by
  cases d with
  | zero => cases h
  | succ d =>
    simp only [eqI] at h
    cases hu : P.underlying t with
    | none => rw [hu] at h; cases h
    | some u =>
      rw [hu] at h
      cases u <;> try (cases h; done)
      · rename_i k
        cases k <;> cases h
        have ha : tAgg P t = some false := by simp [tAgg, hu]
        unfold part iv
        simp only [Sem.run_bind, run_isAgg ha, Result.andThen_ok, ha, Bool.false_eq_true, if_false]
        have hl : o < xs.length := by omega
        simp [hl, List.getElem?_eq_getElem hl, Sem.run_pure, List.head?_take, List.head?_drop]
      · rename_i fs
        have ha : tAgg P t = some true := by simp [tAgg, hu]
        unfold part iv
        simp only [Sem.run_bind, run_isAgg ha, Result.andThen_ok, ha, if_true, run_sizeOf (info_of_agg ha), Sem.run_pure, hs]
        congr 2
        apply Array.toList_inj.1
        rw [List.map_take, List.map_drop]
        simp [List.extract_eq_take_drop]
theorem fields_iv {P : Program} {w : World} {d : Nat} (ih : ∀ {t n}, eqI P d t = some n → ∀ {D}, d ≤ D → ∀ xs ys : List Int, xs.length = n → ys.length = n → (Op.equalIn D t (iv P t xs) (iv P t ys)).run P w = .ok (decide (xs = ys)) w) {D : Nat} (hD : d ≤ D) :
    ∀ (fs : List Field) (o n : Nat), eqIf P (eqI P d) fs o = some n → ∀ xs ys : List Int, xs.length = n → ys.length = n → o ≤ n ∧
      (forIn fs ((none : Option Bool), ()) (fun f __s => if f.name ≠ "_" then do
          let a ← part f.type (xs.map (Value.int .i64)).toArray f.offset
          let b ← part f.type (ys.map (Value.int .i64)).toArray f.offset
          let r ← Op.equalIn D f.type a b
          if (!r) = true then pure (ForInStep.done (some false, ())) else pure (ForInStep.yield (none, ()))
        else pure (ForInStep.yield (none, ()))) : Sem (Option Bool × Unit)).run P w = .ok (if xs.drop o = ys.drop o then none else some false, ()) w
  | [], o, n, h, xs, ys, hx, hy => by
    simp only [eqIf, Option.some.injEq] at h
    subst h
    refine ⟨Nat.le_refl _, ?_⟩
    rw [List.drop_eq_nil_of_le (by omega), List.drop_eq_nil_of_le (by omega)]
    rfl
  | f :: fs, o, n, h, xs, ys, hx, hy => by
    simp only [eqIf] at h
    split at h
    case isFalse => cases h
    rename_i hf
    simp only [Bool.and_eq_true, decide_eq_true_eq, Bool.not_eq_true', beq_eq_false_iff_ne] at hf
    split at h
    case h_2 => cases h
    rename_i m hm
    split at h
    case isFalse => cases h
    rename_i hs
    obtain ⟨h1, h2⟩ := fields_iv ih hD fs (o + m) n h xs ys hx hy
    refine ⟨by omega, ?_⟩
    have e : ∀ l : List Int, l.drop o = (l.drop o).take m ++ l.drop (o + m) := fun l => by
      rw [← List.drop_drop, List.take_append_drop]
    have hl : ∀ l : List Int, l.length = n → ((l.drop o).take m).length = m := fun l hl => by simp; omega
    simp only [List.forIn_cons, hf.1, hf.2, if_true, Sem.run_bind, part_iv hm hs xs o (by omega), part_iv hm hs ys o (by omega), Result.andThen_ok, ih hm hD _ _ (hl xs hx) (hl ys hy), ne_eq, not_false_eq_true]
    by_cases q : (xs.drop o).take m = (ys.drop o).take m
    · simp only [q, decide_true, Bool.not_true, Bool.false_eq_true, if_false, Sem.run_pure, Result.andThen_ok]
      simp only [ne_eq] at h2
      rw [h2]
      rw [e xs, e ys, q]
      simp
    · simp only [q, decide_false, Bool.not_false, if_true, Sem.run_pure, Result.andThen_ok]
      have : ¬ (xs.drop o = ys.drop o) := fun he => q (by rw [he])
      rw [if_neg this]
theorem eqI_ok {P : Program} {w : World} : ∀ {d : Nat} {t : TypeId} {n : Nat}, eqI P d t = some n → ∀ {D : Nat}, d ≤ D → ∀ xs ys : List Int, xs.length = n → ys.length = n → (Op.equalIn D t (iv P t xs) (iv P t ys)).run P w = .ok (decide (xs = ys)) w
  | 0, _, _, h, _, _, _, _, _, _ => by cases h
  | d + 1, t, n, h, 0, hD, _, _, _, _ => by omega
  | d + 1, t, n, h, D + 1, hD, xs, ys, hx, hy => by
    simp only [eqI] at h
    cases hu : P.underlying t with
    | none => rw [hu] at h; cases h
    | some u =>
      rw [hu] at h
      cases u <;> try (cases h; done)
      · rename_i k
        cases k <;> cases h
        have ha : tAgg P t = some false := by simp [tAgg, hu]
        match xs, ys, hx, hy with
        | [a], [b], _, _ =>
          simp only [iv, ha, List.headD_cons]
          rw [eq_int hu]
          simp
      · rename_i fs
        have ha : tAgg P t = some true := by simp [tAgg, hu]
        replace h : (if P.stoodInHeld t = true then none else eqIf P (eqI P d) fs.toList 0) = some n := h
        split at h
        · cases h
        rename_i hst
        obtain ⟨-, h2⟩ := fields_iv (w := w) (fun {t n} h {D} hD xs ys hx hy => eqI_ok (d := d) h hD xs ys hx hy) (Nat.le_of_succ_le_succ hD) fs.toList 0 n h xs ys hx hy
        simp only [iv, ha]
        unfold Op.equalIn
        simp only [Sem.run_bind, run_underlying hu, Result.andThen_ok, program, Sem.run, hst, Bool.false_eq_true, if_false]
        rw [← Array.forIn_toList]
        simp only [List.drop_zero, ne_eq] at h2
        simp only [ne_eq]
        erw [h2]
        simp only [Result.andThen_ok]
        by_cases q : xs = ys
        · simp [q, Sem.run_pure]
        · simp [q, Sem.run_pure]
theorem eqC_struct (P : Program) (t n : Nat) (hg : P.eqGuardType P.depth t = false) (h : eqI P 8 t = some n) (ha : tAgg P t = some true) : EqC P t n := by
  refine ⟨hg, fun xs ys w hx hy => ?_⟩
  have := eqI_ok (w := w) h (D := Op.maxDepth) (by unfold Op.maxDepth; omega) xs ys hx hy
  simp only [iv, ha] at this
  exact this
end Go.VI
