/- Loops over lists as folds. -/
import Derived.Test.YtppmnjiibmomoaaVHBest
set_option linter.unusedVariables false
set_option linter.unusedSimpArgs false
set_option linter.unusedSectionVars false
namespace Go.VI
/-- A loop over a list that gathers: I: what holds before element k. -/
theorem loop_acc {α A S R : Type} (l : List α) (f : A → α → A) (mk : Nat → A → S) (body : S → Option (S ⊕ R)) (r : A → R) (I : Nat → A → Prop) (a0 : A) (h0 : I 0 a0)
    (step : ∀ (k : Nat) (x : α) (a : A), l[k]? = some x → I k a → body (mk k a) = some (.inl (mk (k + 1) (f a x))) ∧ I (k + 1) (f a x)) (fin : ∀ a, I l.length a → body (mk l.length a) = some (.inr (r a))) :
    loopT body (mk 0 a0) = some (r (l.foldl f a0)) ∧ I l.length (l.foldl f a0) := by
  have key : ∀ (n k : Nat) (a : A), k + n = l.length → I k a → loopT body (mk k a) = some (r ((l.drop k).foldl f a)) ∧ I l.length ((l.drop k).foldl f a) := by
    intro n
    induction n with
    | zero =>
      intro k a h hI; obtain rfl : k = l.length := by omega
      rw [List.drop_length]
      exact ⟨loop_out (fin a hI), hI⟩
    | succ n ih =>
      intro k a h hI
      have hk : k < l.length := by omega
      have hx : l[k]? = some l[k] := by simp
      have e : l.drop k = l[k] :: l.drop (k + 1) := List.drop_eq_getElem_cons hk
      obtain ⟨q1, q2⟩ := step k l[k] a hx hI
      rw [e, List.foldl_cons, loop_in q1]
      exact ih (k + 1) _ (by omega) q2
  have := key l.length 0 a0 (by omega) h0
  simpa using this
theorem loop_accT {α A S R : Type} (l : List α) (f : A → α → A) (mk : Nat → A → S) (body : S → Option (S ⊕ R)) (r : A → R) (a0 : A)
    (step : ∀ (k : Nat) (x : α) (a : A), l[k]? = some x → body (mk k a) = some (.inl (mk (k + 1) (f a x)))) (fin : ∀ a, body (mk l.length a) = some (.inr (r a))) :
    loopT body (mk 0 a0) = some (r (l.foldl f a0)) :=
  (loop_acc l f mk body r (fun _ _ => True) a0 trivial (fun k x a h _ => ⟨step k x a h, trivial⟩) (fun a _ => fin a)).1
/-- A loop over a list, known by what holds before each element. -/
theorem loop_rel {α A S R : Type} (l : List α) (mk : Nat → A → S) (body : S → Option (S ⊕ R)) (r : A → R) (I : Nat → A → Prop) (a0 : A) (h0 : I 0 a0)
    (step : ∀ (k : Nat) (x : α) (a : A), l[k]? = some x → I k a → ∃ a', body (mk k a) = some (.inl (mk (k + 1) a')) ∧ I (k + 1) a') (fin : ∀ a, I l.length a → body (mk l.length a) = some (.inr (r a))) :
    ∃ a, loopT body (mk 0 a0) = some (r a) ∧ I l.length a := by
  have key : ∀ (n k : Nat) (a : A), k + n = l.length → I k a → ∃ a', loopT body (mk k a) = some (r a') ∧ I l.length a' := by
    intro n
    induction n with
    | zero =>
      intro k a h hI; obtain rfl : k = l.length := by omega
      exact ⟨a, loop_out (fin a hI), hI⟩
    | succ n ih =>
      intro k a h hI
      have hx : l[k]? = some l[k] := by simp
      obtain ⟨a', q1, q2⟩ := step k l[k] a hx hI
      rw [loop_in q1]
      exact ih (k + 1) a' (by omega) q2
  exact key l.length 0 a0 (by omega) h0
theorem mfind_put (m : List (Int × Int)) (k v k' : Int) : mfind (mput m k v) k' = if k' = k then some v else mfind m k' := by
  induction m with
  | nil => simp only [mput, mfind]; by_cases h : k' = k <;> simp [h]
  | cons p m ih =>
    obtain ⟨a, b⟩ := p
    simp only [mput]
    by_cases h : k = a
    · subst h
      simp only [beq_self_eq_true, if_true, mfind]
      by_cases h2 : k' = k <;> simp [h2]
    · have : (k == a) = false := by simp [h]
      simp only [this, Bool.false_eq_true, if_false, mfind, ih]
      by_cases h2 : k' = a
      · subst h2; have : ¬ k' = k := fun e => h e.symm
        simp [this]
      · simp [h2]
theorem mput_keys (m : List (Int × Int)) (k v : Int) : (mput m k v).map (·.1) = if (mfind m k).isSome then m.map (·.1) else m.map (·.1) ++ [k] := by
  induction m with
  | nil => simp [mput, mfind]
  | cons p m ih =>
    obtain ⟨a, b⟩ := p
    simp only [mput, mfind]
    by_cases h : k = a
    · subst h; simp
    · have : (k == a) = false := by simp [h]
      simp only [this, Bool.false_eq_true, if_false, List.map_cons, ih]
      split <;> simp
theorem mfind_none {m : List (Int × Int)} {k : Int} (h : mfind m k = none) : k ∉ m.map (·.1) := by
  induction m with
  | nil => simp
  | cons p m ih =>
    obtain ⟨a, b⟩ := p
    simp only [mfind] at h
    split at h
    · cases h
    · rename_i hk
      simp only [List.map_cons, List.mem_cons, not_or]
      exact ⟨by simpa using hk, ih h⟩
theorem lt_of_get {α : Type} {l : List α} {k : Nat} {x : α} (h : l[k]? = some x) : k < l.length := (List.getElem?_eq_some_iff.1 h).1
theorem succ_cast (k : Nat) (h : (k : Int) < 9223372036854775807) : iadd (k : Int) 1 = ((k + 1 : Nat) : Int) := by rw [iadd_eq (by omega) (by omega)]; omega
theorem bestOk_put {m : List (Int × Int)} {k v : Int} (h : BestOk m) (hk : 0 ≤ k) : BestOk (mput m k v) := by
  have hkeys := mput_keys m k v
  have h2 : ∀ x ∈ (mput m k v).map (·.1), 0 ≤ x := by
    intro x hx
    rw [hkeys] at hx
    split at hx
    · obtain ⟨p, hp, rfl⟩ := List.mem_map.1 hx; exact h.2 p hp
    · rcases List.mem_append.1 hx with q | q
      · obtain ⟨p, hp, rfl⟩ := List.mem_map.1 q; exact h.2 p hp
      · simp at q; subst q; exact hk
  refine ⟨?_, fun p hp => h2 _ (List.mem_map.2 ⟨p, hp, rfl⟩)⟩
  rw [hkeys]
  split
  · exact h.1
  · rename_i hn
    have := mfind_none (by simpa using hn : mfind m k = none)
    rw [List.nodup_append]
    exact ⟨h.1, by simp, fun a ha b hb => by simp at hb; subst hb; rintro rfl; exact this ha⟩
theorem bestOk_nil : BestOk [] := ⟨by simp, by simp⟩
theorem mem_of_mfind {m : List (Int × Int)} {k v : Int} (h : mfind m k = some v) : (k, v) ∈ m := by
  induction m with
  | nil => cases h
  | cons p m ih =>
    obtain ⟨a, b⟩ := p
    simp only [mfind] at h
    split at h
    · rename_i hk
      injection h with h
      have : k = a := by simpa using hk
      subst this h; simp
    · exact List.mem_cons_of_mem _ (ih h)
end Go.VI
