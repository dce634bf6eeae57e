/- Plain words for the models: integers within bounds, loops. -/
import Derived.Test.YtppmnjiibmomoaaVHWords
set_option linter.unusedVariables false
set_option linter.unusedSimpArgs false
set_option linter.unusedSectionVars false
namespace Go.VI
theorem wrap_id (n : Int) (h1 : -9223372036854775808 ≤ n) (h2 : n ≤ 9223372036854775807) : IntKind.i64.wrap n = n := by
  simp only [IntKind.wrap, IntKind.signed, IntKind.bits, IntKind.min, IntKind.max]
  first | omega | (simp only [Int.reducePow, if_true]; omega) | (simp; omega) | skip
theorem iadd_eq {a b : Int} (h1 : -9223372036854775808 ≤ a + b) (h2 : a + b ≤ 9223372036854775807) : iadd a b = a + b := wrap_id _ h1 h2
theorem isub_eq {a b : Int} (h1 : -9223372036854775808 ≤ a - b) (h2 : a - b ≤ 9223372036854775807) : isub a b = a - b := wrap_id _ h1 h2
theorem imul_eq {a b : Int} (h1 : -9223372036854775808 ≤ a * b) (h2 : a * b ≤ 9223372036854775807) : imul a b = a * b := wrap_id _ h1 h2
theorem ineg_eq {a : Int} (h1 : -9223372036854775808 ≤ -a) (h2 : -a ≤ 9223372036854775807) : ineg a = -a := by
  unfold ineg; rw [Int.zero_sub]; exact wrap_id _ h1 h2
theorem idx_of {α : Type} {l : List α} {k : Nat} {x : α} (h : l[k]? = some x) : idx l (k : Int) = some x := by
  unfold idx; rw [if_pos (Int.natCast_nonneg k), Int.toNat_natCast]; exact h
theorem idx_nat {α : Type} (l : List α) (k : Nat) : idx l (k : Int) = l[k]? := by
  unfold idx; rw [if_pos (Int.natCast_nonneg k), Int.toNat_natCast]
theorem app_eq {α : Type} {l xs : List α} (h : l.length + xs.length ≤ LIM) : app l xs = some (l ++ xs) := by unfold app; rw [if_pos h]
/-- the way of a loop, round by round -/
theorem loop_in {S R : Type} {body : S → Option (S ⊕ R)} {s s' : S} (h : body s = some (.inl s')) : loopT body s = loopT body s' := by rw [loopT_eq, h]
theorem loop_out {S R : Type} {body : S → Option (S ⊕ R)} {s : S} {r : R} (h : body s = some (.inr r)) : loopT body s = some r := by rw [loopT_eq, h]
/-- A loop over a list that ends early, or at the end: f k s: the state before element k. -/
theorem loop_fold {α S R : Type} (l : List α) (body : S → Option (S ⊕ R)) (st : Nat → S) (r : R) (step : ∀ (k : Nat) (x : α), l[k]? = some x → body (st k) = some (.inl (st (k + 1)))) (fin : body (st l.length) = some (.inr r)) : loopT body (st 0) = some r := by
  have key : ∀ n k, k + n = l.length → loopT body (st k) = some r := by
    intro n
    induction n with
    | zero => intro k h; obtain rfl : k = l.length := by omega
              exact loop_out fin
    | succ n ih =>
      intro k h
      rw [loop_in (step k l[k] (by simp))]
      exact ih (k + 1) (by omega)
  exact key l.length 0 (by omega)
/-- A loop that asks something of each element, and stops at the first that fails. -/
theorem loop_all {α R : Type} (l : List α) (body : Int → Option (Int ⊕ R)) (q : α → Bool) (no yes : R) (step : ∀ (k : Nat) (x : α), l[k]? = some x → body k = if q x then some (.inl ((k + 1 : Nat) : Int)) else some (.inr no)) (fin : body (l.length : Int) = some (.inr yes)) :
    loopT body 0 = some (if l.all q then yes else no) := by
  have key : ∀ (n k : Nat), k + n = l.length → loopT body (k : Int) = some (if (l.drop k).all q then yes else no) := by
    intro n
    induction n with
    | zero =>
      intro k h; obtain rfl : k = l.length := by omega
      rw [List.drop_length, loop_out fin]; rfl
    | succ n ih =>
      intro k h
      have hk : k < l.length := by omega
      have hx : l[k]? = some l[k] := by simp
      have e : l.drop k = l[k] :: l.drop (k + 1) := List.drop_eq_getElem_cons hk
      have hb := step k l[k] hx
      by_cases hq : q l[k] = true
      · rw [if_pos hq] at hb
        rw [loop_in hb, ih (k + 1) (by omega), e, List.all_cons, hq, Bool.true_and]
      · rw [if_neg hq] at hb
        rw [loop_out hb, e, List.all_cons, Bool.eq_false_iff.2 hq, Bool.false_and]; rfl
  have := key l.length 0 (by omega)
  simpa using this
theorem loop_any {α R : Type} (l : List α) (body : Int → Option (Int ⊕ R)) (q : α → Bool) (no yes : R) (step : ∀ (k : Nat) (x : α), l[k]? = some x → body k = if q x then some (.inr yes) else some (.inl ((k + 1 : Nat) : Int))) (fin : body (l.length : Int) = some (.inr no)) :
    loopT body 0 = some (if l.any q then yes else no) := by
  rw [loop_all l body (fun x => !q x) yes no (fun k x h => ?_) fin]
  · congr 1
    have : l.all (fun x => !q x) = !l.any q := by simp [List.all_eq_not_any_not]
    rw [this]; cases l.any q <;> rfl
  · rw [step k x h]; cases q x <;> rfl
end Go.VI
