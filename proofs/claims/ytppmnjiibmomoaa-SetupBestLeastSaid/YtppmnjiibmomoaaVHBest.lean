/- The least entry of a map, whatever the order in which it is gone through. -/
import Derived.Test.YtppmnjiibmomoaaVHPlain
set_option linter.unusedVariables false
set_option linter.unusedSimpArgs false
set_option linter.unusedSectionVars false
namespace Go.VI
def bestStep (m : List (Int × Int)) (out : Int) (kv : Int × Int) : Int :=
  if out < 0 ∨ kv.2 < (mfind m out).getD 0 ∨ (kv.2 = (mfind m out).getD 0 ∧ kv.1 < out) then kv.1 else out
def bestOf (m : List (Int × Int)) : Int := m.foldl (bestStep m) (-1)
/-- no key twice, none below zero -/
def BestOk (m : List (Int × Int)) : Prop := (m.map (·.1)).Nodup ∧ ∀ p ∈ m, 0 ≤ p.1
open Classical in
noncomputable def bestM (m : List (Int × Int)) : Option Int := if BestOk m then some (bestOf m) else none
theorem bestM_some {m : List (Int × Int)} {r : Int} (h : bestM m = some r) : BestOk m ∧ bestOf m = r := by
  unfold bestM at h
  split at h
  · injection h with h; exact ⟨by assumption, h⟩
  · cases h
theorem bestM_ok {m : List (Int × Int)} (h : BestOk m) : bestM m = some (bestOf m) := by unfold bestM; rw [if_pos h]
/-- left: what is still to come; out: the least of what has come -/
def BestI (m left : List (Int × Int)) (out : Int) : Prop :=
  BestOk m ∧ left.Sublist m ∧ ((left = m ∧ out = -1) ∨ ∃ v, (out, v) ∈ m ∧ (out, v) ∉ left ∧ ∀ p ∈ m, p ∉ left → v < p.2 ∨ (v = p.2 ∧ out ≤ p.1))
theorem best_start {m : List (Int × Int)} (h : BestOk m) : BestI m m (-1) := ⟨h, List.Sublist.refl _, .inl ⟨rfl, rfl⟩⟩
theorem nodup_of_keys {m : List (Int × Int)} (h : (m.map (·.1)).Nodup) : m.Nodup := by
  induction m with
  | nil => exact List.nodup_nil
  | cons p m ih =>
    simp only [List.map_cons, List.nodup_cons] at h ⊢
    exact ⟨fun hp => h.1 (List.mem_map.2 ⟨p, hp, rfl⟩), ih h.2⟩
theorem mfind_mem {m : List (Int × Int)} (h : (m.map (·.1)).Nodup) {k v : Int} (hm : (k, v) ∈ m) : mfind m k = some v := by
  induction m with
  | nil => cases hm
  | cons p m ih =>
    obtain ⟨a, b⟩ := p
    simp only [List.map_cons, List.nodup_cons] at h
    simp only [mfind]
    rcases List.mem_cons.1 hm with e | e
    · injection e with e1 e2; subst e1 e2; simp
    · have : k ≠ a := by rintro rfl; exact h.1 (List.mem_map.2 ⟨(k, v), e, rfl⟩)
      rw [if_neg (by simpa using this)]
      exact ih h.2 e
theorem not_mem_erase {l : List (Int × Int)} (hn : l.Nodup) {i : Nat} {kv p : Int × Int} (h : l[i]? = some kv) : p ∉ l.eraseIdx i ↔ p ∉ l ∨ p = kv := by
  induction l generalizing i with
  | nil => simp at h
  | cons x l ih =>
    simp only [List.nodup_cons] at hn
    cases i with
    | zero =>
      simp at h; subst h
      simp only [List.eraseIdx_zero, List.tail_cons, List.mem_cons, not_or]
      constructor
      · intro hp
        by_cases e : p = x
        · exact .inr e
        · exact .inl ⟨e, hp⟩
      · rintro (⟨_, hp⟩ | rfl)
        · exact hp
        · exact hn.1
    | succ i =>
      simp only [List.getElem?_cons_succ] at h
      simp only [List.eraseIdx_cons_succ, List.mem_cons, not_or]
      have := ih hn.2 h
      constructor
      · rintro ⟨h1, h2⟩
        rcases this.1 h2 with q | q
        · exact .inl ⟨h1, q⟩
        · exact .inr q
      · rintro (⟨h1, h2⟩ | rfl)
        · exact ⟨h1, this.2 (.inl h2)⟩
        · refine ⟨?_, this.2 (.inr rfl)⟩
          rintro rfl
          exact hn.1 (List.mem_of_getElem? h)
theorem best_step {m left : List (Int × Int)} {out : Int} {i : Nat} {kv : Int × Int} {o2 : Int} (h : BestI m left out) (hkv : left[i]? = some kv) (ho : bestStep m out kv = o2) : BestI m (left.eraseIdx i) o2 := by
  obtain ⟨hok, hsub, hh⟩ := h
  have hn := (nodup_of_keys hok.1).sublist hsub
  have hmem : kv ∈ m := hsub.subset (List.mem_of_getElem? hkv)
  refine ⟨hok, (List.eraseIdx_sublist _ _).trans hsub, .inr ?_⟩
  subst ho
  unfold bestStep
  rcases hh with ⟨rfl, rfl⟩ | ⟨v, h1, h2, h3⟩
  · rw [if_pos (by omega)]
    refine ⟨kv.2, hmem, (not_mem_erase hn hkv).2 (.inr rfl), fun p hp hpl => ?_⟩
    rcases (not_mem_erase hn hkv).1 hpl with q | rfl
    · exact absurd hp q
    · exact .inr ⟨rfl, Int.le_refl _⟩
  · have h0 := hok.2 _ h1
    rw [mfind_mem hok.1 h1, Option.getD_some]
    simp only at h0
    split
    · rename_i hc
      refine ⟨kv.2, hmem, (not_mem_erase hn hkv).2 (.inr rfl), fun p hp hpl => ?_⟩
      rcases (not_mem_erase hn hkv).1 hpl with q | rfl
      · rcases h3 p hp q with q | q <;> omega
      · exact .inr ⟨rfl, Int.le_refl _⟩
    · rename_i hc
      refine ⟨v, h1, (not_mem_erase hn hkv).2 (.inl h2), fun p hp hpl => ?_⟩
      rcases (not_mem_erase hn hkv).1 hpl with q | rfl
      · exact h3 p hp q
      · omega
theorem best_less {left : List (Int × Int)} {i : Nat} {kv : Int × Int} (h : left[i]? = some kv) : (left.eraseIdx i).length < left.length := by
  have := (List.getElem?_eq_some_iff.1 h).1
  rw [List.length_eraseIdx, if_pos this]; omega
theorem best_fold {m : List (Int × Int)} : ∀ (left : List (Int × Int)) (out : Int), BestI m left out → BestI m [] (left.foldl (bestStep m) out)
  | [], _, h => h
  | kv :: left, out, h => best_fold left _ (by simpa using best_step (i := 0) h rfl rfl)
theorem best_of {m : List (Int × Int)} (h : BestOk m) : BestI m [] (bestOf m) := best_fold m (-1) (best_start h)
theorem best_one {m : List (Int × Int)} {a b : Int} (h1 : BestI m [] a) (h2 : BestI m [] b) : a = b := by
  obtain ⟨hok, _, h1⟩ := h1
  obtain ⟨_, _, h2⟩ := h2
  rcases h1 with ⟨rfl, rfl⟩ | ⟨v, a1, _, a3⟩ <;> rcases h2 with ⟨e, rfl⟩ | ⟨u, b1, _, b3⟩
  · rfl
  · cases b1
  · rw [← e] at a1; cases a1
  · have p := a3 _ b1 (by simp)
    have q := b3 _ a1 (by simp)
    simp only at p q
    omega
theorem best_end {m left : List (Int × Int)} {out r : Int} (hok : BestOk m) (h : BestI m left out) (hl : left = []) (hr : bestOf m = r) : out = r := by
  subst hl hr
  exact best_one h (best_of hok)
/-- what it is: of a least entry the key -/
theorem bestOf_spec {m : List (Int × Int)} (h : BestOk m) (hne : m ≠ []) : ∃ v, (bestOf m, v) ∈ m ∧ ∀ p ∈ m, v < p.2 ∨ (v = p.2 ∧ bestOf m ≤ p.1) := by
  obtain ⟨_, _, hh⟩ := best_of h
  rcases hh with ⟨e, _⟩ | ⟨v, h1, _, h3⟩
  · exact absurd e.symm hne
  · exact ⟨v, h1, fun p hp => h3 p hp (by simp)⟩
end Go.VI
