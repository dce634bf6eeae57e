/- Rectangles: which are valid, which lie in others. -/
import Derived.Test.YtgfjbgoehhnaeaaGreatCzMV
import Derived.Test.YtgfjbgoehhnaeaaGreatVHC3
set_option linter.unusedVariables false
set_option linter.unusedSimpArgs false
set_option linter.unusedSectionVars false
namespace Go.SM
open Go Go.VI
def wb (m n:Int):Bool:=decide (-m≤n)&&decide (n≤m)
theorem Jp {m n:Int}:wb m n=true↔-m≤n∧n≤m:=by unfold wb;simp only [Bool.and_eq_true,decide_eq_true_eq]
theorem RU (n m:Int) (h : -1000000000≤m∧m≤1000000000):Ik n m=some (wb m n):=by
  unfold Ik wb
  rw [FJ (by omega) (by omega)]
  by_cases h1 : -m≤n <;> simp [h1]
def vR (r:Rect):Prop:=(-1048576≤r.X∧r.X≤1048576)∧(-1048576≤r.Y∧r.Y≤1048576)∧0<r.W∧0<r.H∧r.X+r.W≤1048576∧r.Y+r.H≤1048576
instance (r:Rect):Decidable (vR r):=by unfold vR;infer_instance
theorem YQ (x w:Int):uI x w=some (decide ((-1048576≤x∧x≤1048576)∧0<w∧x+w≤1048576)):=by
  unfold uI
  simp only [RU _ 1048576 (by omega),Option.bind_some]
  by_cases h1:wb 1048576 x=true
  · have h1':=Jp.1 h1
    by_cases h2:0<w
    · by_cases h3:w≤2097152
      · rw [aS (by omega) (by omega)]
        simp [h1,h2,h3,h1']
      · have:¬ x+w≤1048576:=by omega
        simp [h1,h2,h3,this]
    · simp [h1,h2]
  · have h1':¬ (-1048576≤x∧x≤1048576):=fun q=>h1 (Jp.2 q)
    simp [h1];intro a b;exact absurd ⟨a,b⟩ h1'
theorem uU (r:Rect):fG r=some (decide (vR r)):=by
  unfold fG
  simp only [YQ,Option.bind_some]
  by_cases h1:(-1048576≤r.X∧r.X≤1048576)∧0<r.W∧r.X+r.W≤1048576
  · by_cases h2:(-1048576≤r.Y∧r.Y≤1048576)∧0<r.H∧r.Y+r.H≤1048576
    · have:vR r:=by unfold vR;omega
      simp [h1,h2,this]
    · have:¬ vR r:=by unfold vR;omega
      simp only [h1,h2,this,decide_true,decide_false,and_self];rfl
  · have:¬ vR r:=by unfold vR;omega
    simp only [h1,this,decide_false];rfl
def vV (a b:Rect):Prop:=vR a∧vR b∧b.X≤a.X∧a.X+a.W≤b.X+b.W∧b.Y≤a.Y∧a.Y+a.H≤b.Y+b.H
instance (a b:Rect):Decidable (vV a b):=by unfold vV;infer_instance
theorem Vt (a b:Rect):yS a b=some (decide (vV a b)):=by
  unfold yS vV
  simp only [uU,Option.bind_some]
  by_cases h1:vR a
  · by_cases h2:vR b
    · have h1':=h1;have h2':=h2
      unfold vR at h1' h2'
      rw [aS (by omega) (by omega),aS (by omega) (by omega),aS (by omega) (by omega),aS (by omega) (by omega)]
      by_cases h3:b.X≤a.X <;> by_cases h4:a.X+a.W≤b.X+b.W <;> by_cases h5:b.Y≤a.Y <;> simp [h1,h2,h3,h4,h5]
    · simp [h1,h2]
  · simp [h1]
theorem XZ (n:Int):iP n=some (wb 1048576 n):=by
  unfold iP wb
  by_cases h1 : -1048576≤n <;> simp [h1]
theorem Ou       (r:Rect):bQ r=some (decide (vR r)):=by
  unfold bQ
  simp only [XZ,Option.bind_some]
  by_cases h1:wb 1048576 r.X=true
  · by_cases h2 : wb 1048576 r.Y=true
    · have h1':=Jp.1 h1
      have h2':=Jp.1 h2
      by_cases h3:r.W<1
      · have:¬ vR r:=by unfold vR;omega
        simp [h1,h2,h3,this]
      · by_cases h4:r.H<1
        · have:¬ vR r:=by unfold vR;omega
          simp [h1,h2,h3,h4,this]
        · by_cases h5:r.W>2097152
          · have:¬ vR r:=by unfold vR;omega
            simp [h1,h2,h3,h4,h5,this]
          · by_cases h6:r.H>2097152
            · have:¬ vR r:=by unfold vR;omega
              simp [h1,h2,h3,h4,h5,h6,this]
            · rw [aS (by omega) (by omega),aS (by omega) (by omega)]
              simp only [h1,h2,h3,h4,h5,h6,if_true,decide_false,Bool.false_eq_true,if_false,Option.bind_some]
              by_cases h7:wb 1048576 (r.X+r.W)=true
              · have h7':=Jp.1 h7
                by_cases h8:wb 1048576 (r.Y+r.H)=true
                · have h8':=Jp.1 h8
                  have:vR r:=by unfold vR;omega
                  simp [h7,h8,this]
                · have h8':¬ (-1048576≤r.Y+r.H∧r.Y+r.H≤1048576):=fun q=>h8 (Jp.2 q)
                  have:¬ vR r:=by unfold vR;omega
                  simp [h7,h8,this]
              · have h7':¬ (-1048576≤r.X+r.W∧r.X+r.W≤1048576):=fun q=>h7 (Jp.2 q)
                have:¬ vR r:=by unfold vR;omega
                simp [h7,this]
    · have h2':¬ (-1048576≤r.Y∧r.Y≤1048576):=fun q=>h2 (Jp.2 q)
      have:¬ vR r:=fun q=>h2' q.2.1
      simp [h1,h2,this]
  · have h1':¬ (-1048576≤r.X∧r.X≤1048576):=fun q=>h1 (Jp.2 q)
    have:¬ vR r:=fun q=>h1' q.1
    simp [h1,this]
theorem Vu (a b:Rect):iT a b=some (decide (vV a b)):=by
  unfold iT vV
  simp only [Ou,Option.bind_some]
  by_cases h1:vR a
  · by_cases h2:vR b
    · have h1':=h1;have h2':=h2
      unfold vR at h1' h2'
      rw [aS (by omega) (by omega),aS (by omega) (by omega),aS (by omega) (by omega),aS (by omega) (by omega)]
      by_cases h3:b.X≤a.X <;> by_cases h4:a.X+a.W≤b.X+b.W <;> by_cases h5:b.Y≤a.Y <;> simp [h1,h2,h3,h4,h5]
    · simp [h1,h2]
  · simp [h1]
end Go.SM
