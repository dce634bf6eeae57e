/- The laws of the geometry's first functions, on the models alone. -/
import Derived.Test.YtiodkdpfkchkjaaGeMA
import Derived.Test.YtiodkdpfkchkjaaVHC3
import Derived.Test.YtiodkdpfkchkjaaVHC4
import Derived.Test.YtiodkdpfkchkjaaR3P
set_option linter.unusedVariables false
set_option linter.unusedSimpArgs false
set_option linter.unusedSectionVars false
namespace Go.SM
open Go Go.VI Go.Geo
/-- lies n within m? -/
def wb (m n : Int) : Bool := decide (-m ≤ n) && decide (n ≤ m)
theorem wb_iff {m n : Int} : wb m n = true ↔ -m ≤ n ∧ n ≤ m := by unfold wb; simp only [Bool.and_eq_true, decide_eq_true_eq]
theorem within_eq (n m : Int) (h : -1000000000 ≤ m ∧ m ≤ 1000000000) : geom_within n m = some (wb m n) := by
  unfold geom_within wb
  rw [ineg_eq (by omega) (by omega)]
  by_cases h1 : -m ≤ n <;> simp [h1]
theorem rwithin_eq (n lo hi : Int) : sheetmetalref01_within n lo hi = some (decide (lo ≤ n) && decide (n ≤ hi)) := by
  unfold sheetmetalref01_within
  by_cases h1 : lo ≤ n <;> simp [h1]
theorem known_eq : sheetmetallaw01_known = some true := by rfl
/-! ### turns -/
def vR (r : Rect) : Prop := (-1048576 ≤ r.X ∧ r.X ≤ 1048576) ∧ (-1048576 ≤ r.Y ∧ r.Y ≤ 1048576) ∧ 0 < r.W ∧ 0 < r.H ∧ r.X + r.W ≤ 1048576 ∧ r.Y + r.H ≤ 1048576
instance (r : Rect) : Decidable (vR r) := by unfold vR; infer_instance
theorem span_eq (x w : Int) : geom_ValidRect_1 x w = some (decide ((-1048576 ≤ x ∧ x ≤ 1048576) ∧ 0 < w ∧ x + w ≤ 1048576)) := by
  unfold geom_ValidRect_1
  simp only [within_eq _ 1048576 (by omega), Option.bind_some]
  by_cases h1 : wb 1048576 x = true
  · have h1' := wb_iff.1 h1
    by_cases h2 : 0 < w
    · by_cases h3 : w ≤ 2097152
      · rw [iadd_eq (by omega) (by omega)]
        simp [h1, h2, h3, h1']
      · have : ¬ x + w ≤ 1048576 := by omega
        simp [h1, h2, h3, this]
    · simp [h1, h2]
  · have h1' : ¬ (-1048576 ≤ x ∧ x ≤ 1048576) := fun q => h1 (wb_iff.2 q)
    simp [h1]; intro a b; exact absurd ⟨a, b⟩ h1'
theorem ValidRect_eq (r : Rect) : geom_ValidRect r = some (decide (vR r)) := by
  unfold geom_ValidRect
  simp only [span_eq, Option.bind_some]
  by_cases h1 : (-1048576 ≤ r.X ∧ r.X ≤ 1048576) ∧ 0 < r.W ∧ r.X + r.W ≤ 1048576
  · by_cases h2 : (-1048576 ≤ r.Y ∧ r.Y ≤ 1048576) ∧ 0 < r.H ∧ r.Y + r.H ≤ 1048576
    · have : vR r := by unfold vR; omega
      simp [h1, h2, this]
    · have : ¬ vR r := by unfold vR; omega
      simp only [h1, h2, this, decide_true, decide_false, and_self]; rfl
  · have : ¬ vR r := by unfold vR; omega
    simp only [h1, this, decide_false]; rfl
theorem rValidRect_eq (r : Rect) : sheetmetalref01_ValidRect r = some (decide (vR r)) := by
  unfold sheetmetalref01_ValidRect
  simp only [rwithin_eq, Option.bind_some]
  by_cases h1 : (decide (-1048576 ≤ r.X) && decide (r.X ≤ 1048576)) = true
  · by_cases h2 : (decide (-1048576 ≤ r.Y) && decide (r.Y ≤ 1048576)) = true
    · by_cases h3 : (decide (1 ≤ r.W) && decide (r.W ≤ 2097152)) = true
      · by_cases h4 : (decide (1 ≤ r.H) && decide (r.H ≤ 2097152)) = true
        · simp only [h1, h2, h3, h4, if_true, Option.bind_some, Bool.not_true, Bool.false_eq_true, if_false]
          simp only [Bool.and_eq_true, decide_eq_true_eq] at h1 h2 h3 h4
          rw [iadd_eq (by omega) (by omega), iadd_eq (by omega) (by omega)]
          by_cases h5 : r.X + r.W ≤ 1048576
          · by_cases h6 : r.Y + r.H ≤ 1048576
            · have : vR r := by unfold vR; omega
              simp [h5, h6, this]
            · have : ¬ vR r := by unfold vR; omega
              simp [h5, h6, this]
          · have : ¬ vR r := by unfold vR; omega
            simp [h5, this]
        · have : ¬ vR r := by unfold vR; simp only [Bool.and_eq_true, decide_eq_true_eq] at *; omega
          simp only [h1, h2, h3, h4, this, if_true, Option.bind_some]; simp
      · have : ¬ vR r := by unfold vR; simp only [Bool.and_eq_true, decide_eq_true_eq] at *; omega
        simp only [h1, h2, h3, this, if_true, Option.bind_some]; simp
    · have : ¬ vR r := by unfold vR; simp only [Bool.and_eq_true, decide_eq_true_eq] at *; omega
      simp only [h1, h2, this, if_true, Option.bind_some]; simp
  · have : ¬ vR r := by unfold vR; simp only [Bool.and_eq_true, decide_eq_true_eq] at *; omega
    simp only [h1, this, Option.bind_some]; simp
/-- the interiors have a common point -/
def ovR (a b : Rect) : Prop := vR a ∧ vR b ∧ a.X < b.X + b.W ∧ b.X < a.X + a.W ∧ a.Y < b.Y + b.H ∧ b.Y < a.Y + a.H
instance (a b : Rect) : Decidable (ovR a b) := by unfold ovR; infer_instance
theorem Overlap_eq (a b : Rect) : geom_Overlap a b = some (decide (ovR a b)) := by
  unfold geom_Overlap ovR
  simp only [ValidRect_eq, Option.bind_some]
  by_cases h1 : vR a
  · by_cases h2 : vR b
    · have h1' := h1; have h2' := h2
      unfold vR at h1' h2'
      rw [iadd_eq (by omega) (by omega), iadd_eq (by omega) (by omega), iadd_eq (by omega) (by omega), iadd_eq (by omega) (by omega)]
      by_cases h3 : a.X < b.X + b.W <;> by_cases h4 : b.X < a.X + a.W <;> by_cases h5 : a.Y < b.Y + b.H <;> simp [h1, h2, h3, h4, h5]
    · simp [h1, h2]
  · simp [h1]
def inRect (a b : Rect) : Prop := vR a ∧ vR b ∧ b.X ≤ a.X ∧ a.X + a.W ≤ b.X + b.W ∧ b.Y ≤ a.Y ∧ a.Y + a.H ≤ b.Y + b.H
instance (a b : Rect) : Decidable (inRect a b) := by unfold inRect; infer_instance
theorem imax_eq (a b : Int) : imax a b = max a b := by unfold imax; split <;> omega
/-! ### orientation -/
end Go.SM
