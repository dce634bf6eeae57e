/- The runs of a function on the integers: where it is the same and not 0, as long as possible. -/
set_option linter.unusedVariables false
set_option linter.unusedSimpArgs false
set_option linter.unusedSectionVars false
namespace Go.Cells
def IsRun (s : Int → Int) (a b : Int) : Prop := a < b ∧ s a ≠ 0 ∧ (∀ z, a ≤ z → z < b → s z = s a) ∧ s (a - 1) ≠ s a ∧ s b ≠ s a
def RunsOf (s : Int → Int) (l : List (Int × Int)) : Prop := l.Pairwise (fun p q => p.1 < q.1) ∧ ∀ a b, (a, b) ∈ l ↔ IsRun s a b
/-- lists in order with the same members are the same -/
theorem sorted_unique {α : Type} {lt : α → α → Prop} (irr : ∀ x, ¬ lt x x) (tr : ∀ x y z, lt x y → lt y z → lt x z) : ∀ {l l' : List α}, l.Pairwise lt → l'.Pairwise lt → (∀ x, x ∈ l ↔ x ∈ l') → l = l'
  | [], [], _, _, _ => rfl
  | [], y :: t, _, _, h => absurd ((h y).2 List.mem_cons_self) (by simp)
  | x :: t, [], _, _, h => absurd ((h x).1 List.mem_cons_self) (by simp)
  | x :: t, y :: t', h1, h2, h => by
    rw [List.pairwise_cons] at h1 h2
    have e : x = y := by
      rcases List.mem_cons.1 ((h x).1 List.mem_cons_self) with e | m
      · exact e
      · rcases List.mem_cons.1 ((h y).2 List.mem_cons_self) with e | m'
        · exact e.symm
        · exact absurd (tr _ _ _ (h1.1 y m') (h2.1 x m)) (irr x)
    subst e
    congr 1
    refine sorted_unique irr tr h1.2 h2.2 fun z => ?_
    constructor
    · intro m
      rcases List.mem_cons.1 ((h z).1 (List.mem_cons_of_mem _ m)) with e | m'
      · subst e; exact absurd (h1.1 _ m) (irr _)
      · exact m'
    · intro m
      rcases List.mem_cons.1 ((h z).2 (List.mem_cons_of_mem _ m)) with e | m'
      · subst e; exact absurd (h2.1 _ m) (irr _)
      · exact m'
/-- s below e, and 0 from there on -/
def cut (s : Int → Int) (e : Int) : Int → Int := fun z => if z < e then s z else 0
section
variable {s : Int → Int} {e e' : Int} {l : List (Int × Int)} (h : RunsOf (cut s e) l) (he : e < e') (hs : ∀ z, e ≤ z → z < e' → s z = s e)
include h he hs
end
end Go.Cells
