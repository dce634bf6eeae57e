/- Rectangles: which are valid, which lie in others. -/
import Derived.Test.YtgfjbgoehhnaeaaGreatCzMV
import Derived.Test.YtgfjbgoehhnaeaaGreatVHC3
set_option linter.unusedVariables false
set_option linter.unusedSimpArgs false
set_option linter.unusedSectionVars false
namespace Go.SM
open Go Go.VI
def wb (m n : Int) : Bool:=decide (-m≤n)&&decide (n≤m)
theorem wb_iff {m n : Int} : wb m n=true↔-m≤n∧n≤m:=by unfold wb; simp only [Bool.and_eq_true,decide_eq_true_eq]
theorem within_eq (n m : Int) (h : -1000000000≤m∧m≤1000000000) : geom_within n m=some (wb m n):=by
  unfold geom_within wb
  rw [ineg_eq (by omega) (by omega)]
  by_cases h1 : -m≤n <;> simp [h1]
def vR (r : Rect) : Prop:=(-1048576≤r.X∧r.X≤1048576)∧(-1048576≤r.Y∧r.Y≤1048576)∧0 < r.W∧0 < r.H∧r.X+r.W≤1048576∧r.Y+r.H≤1048576
instance (r : Rect) : Decidable (vR r):=by unfold vR; infer_instance
theorem span_eq (x w : Int) : geom_ValidRect_1 x w=some (decide ((-1048576≤x∧x≤1048576)∧0 < w∧x+w≤1048576)):=by
  unfold geom_ValidRect_1
  simp only [within_eq _ 1048576 (by omega),Option.bind_some]
  by_cases h1 : wb 1048576 x=true
  · have h1':=wb_iff.1 h1
    by_cases h2 : 0 < w
    · by_cases h3 : w≤2097152
      · rw [iadd_eq (by omega) (by omega)]
        simp [h1,h2,h3,h1']
      · have : ¬ x+w≤1048576:=by omega
        simp [h1,h2,h3,this]
    · simp [h1,h2]
  · have h1' : ¬ (-1048576≤x∧x≤1048576):=fun q=>h1 (wb_iff.2 q)
    simp [h1]; intro a b; exact absurd ⟨a,b⟩ h1'
theorem ValidRect_eq (r : Rect) : geom_ValidRect r=some (decide (vR r)):=by
  unfold geom_ValidRect
  simp only [span_eq,Option.bind_some]
  by_cases h1 : (-1048576≤r.X∧r.X≤1048576)∧0 < r.W∧r.X+r.W≤1048576
  · by_cases h2 : (-1048576≤r.Y∧r.Y≤1048576)∧0 < r.H∧r.Y+r.H≤1048576
    · have : vR r:=by unfold vR; omega
      simp [h1,h2,this]
    · have : ¬ vR r:=by unfold vR; omega
      simp only [h1,h2,this,decide_true,decide_false,and_self]; rfl
  · have : ¬ vR r:=by unfold vR; omega
    simp only [h1,this,decide_false]; rfl
def inRect (a b : Rect) : Prop:=vR a∧vR b∧b.X≤a.X∧a.X+a.W≤b.X+b.W∧b.Y≤a.Y∧a.Y+a.H≤b.Y+b.H
instance (a b : Rect) : Decidable (inRect a b):=by unfold inRect; infer_instance
theorem Inside_eq (a b : Rect) : geom_Inside a b=some (decide (inRect a b)):=by
  unfold geom_Inside inRect
  simp only [ValidRect_eq,Option.bind_some]
  by_cases h1 : vR a
  · by_cases h2 : vR b
    · have h1':=h1; have h2':=h2
      unfold vR at h1' h2'
      rw [iadd_eq (by omega) (by omega),iadd_eq (by omega) (by omega),iadd_eq (by omega) (by omega),iadd_eq (by omega) (by omega)]
      by_cases h3 : b.X≤a.X <;> by_cases h4 : a.X+a.W≤b.X+b.W <;> by_cases h5 : b.Y≤a.Y <;> simp [h1,h2,h3,h4,h5]
    · simp [h1,h2]
  · simp [h1]
theorem near_eq (n : Int) : sheetmetalref06_near n=some (wb 1048576 n):=by
  unfold sheetmetalref06_near wb
  by_cases h1 : -1048576≤n <;> simp [h1]
theorem Right_eq (r : Rect) : sheetmetalref06_Right r=some (decide (vR r)):=by
  unfold sheetmetalref06_Right
  simp only [near_eq,Option.bind_some]
  by_cases h1 : wb 1048576 r.X=true
  · by_cases h2 : wb 1048576 r.Y=true
    · have h1':=wb_iff.1 h1
      have h2':=wb_iff.1 h2
      by_cases h3 : r.W < 1
      · have : ¬ vR r:=by unfold vR; omega
        simp [h1,h2,h3,this]
      · by_cases h4 : r.H < 1
        · have : ¬ vR r:=by unfold vR; omega
          simp [h1,h2,h3,h4,this]
        · by_cases h5 : r.W > 2097152
          · have : ¬ vR r:=by unfold vR; omega
            simp [h1,h2,h3,h4,h5,this]
          · by_cases h6 : r.H > 2097152
            · have : ¬ vR r:=by unfold vR; omega
              simp [h1,h2,h3,h4,h5,h6,this]
            · rw [iadd_eq (by omega) (by omega),iadd_eq (by omega) (by omega)]
              simp only [h1,h2,h3,h4,h5,h6,if_true,decide_false,Bool.false_eq_true,if_false,Option.bind_some]
              by_cases h7 : wb 1048576 (r.X+r.W)=true
              · have h7':=wb_iff.1 h7
                by_cases h8 : wb 1048576 (r.Y+r.H)=true
                · have h8':=wb_iff.1 h8
                  have : vR r:=by unfold vR; omega
                  simp [h7,h8,this]
                · have h8' : ¬ (-1048576≤r.Y+r.H∧r.Y+r.H≤1048576):=fun q=>h8 (wb_iff.2 q)
                  have : ¬ vR r:=by unfold vR; omega
                  simp [h7,h8,this]
              · have h7' : ¬ (-1048576≤r.X+r.W∧r.X+r.W≤1048576):=fun q=>h7 (wb_iff.2 q)
                have : ¬ vR r:=by unfold vR; omega
                simp [h7,this]
    · have h2' : ¬ (-1048576≤r.Y∧r.Y≤1048576):=fun q=>h2 (wb_iff.2 q)
      have : ¬ vR r:=fun q=>h2' q.2.1
      simp [h1,h2,this]
  · have h1' : ¬ (-1048576≤r.X∧r.X≤1048576):=fun q=>h1 (wb_iff.2 q)
    have : ¬ vR r:=fun q=>h1' q.1
    simp [h1,this]
theorem Within_eq (a b : Rect) : sheetmetalref06_Within a b=some (decide (inRect a b)):=by
  unfold sheetmetalref06_Within inRect
  simp only [Right_eq,Option.bind_some]
  by_cases h1 : vR a
  · by_cases h2 : vR b
    · have h1':=h1; have h2':=h2
      unfold vR at h1' h2'
      rw [iadd_eq (by omega) (by omega),iadd_eq (by omega) (by omega),iadd_eq (by omega) (by omega),iadd_eq (by omega) (by omega)]
      by_cases h3 : b.X≤a.X <;> by_cases h4 : a.X+a.W≤b.X+b.W <;> by_cases h5 : b.Y≤a.Y <;> simp [h1,h2,h3,h4,h5]
    · simp [h1,h2]
  · simp [h1]
end Go.SM
