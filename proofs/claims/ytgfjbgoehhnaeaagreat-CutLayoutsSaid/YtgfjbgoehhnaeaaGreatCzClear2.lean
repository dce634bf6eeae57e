/- Clear of each other; settings. -/
import Derived.Test.YtgfjbgoehhnaeaaGreatCzPiece
import Derived.Test.YtgfjbgoehhnaeaaGreatCzML
set_option linter.unusedVariables false
set_option linter.unusedSimpArgs false
set_option linter.unusedSectionVars false
namespace Go.SM
open Go Go.VI
def blk (s : Settings) (a b : Rect) : Bool:=decide (ovR a b) || (decide (distR a b < s.Gap)&&!(s.Common&&(distR a b==0)))
def clr (s : Settings) (a b : List Rect) : Bool:=!(a.any fun x=>b.any fun y=>blk s x y)
theorem Clear_eq (a b : List Rect) (s : Settings) (ha : a.length≤9223372036854775806) (hb : b.length≤9223372036854775806) : nest_Clear a b s=some (clr s a b):=by
  have inner : ∀ x : Rect,loopT (nest_Clear_l1 b s x) (0,s.Common)=some (if (b.any fun y=>blk s x y) then .inl () else .inr s.Common):=by
    intro x
    refine loop_anyS b (nest_Clear_l1 b s x) (fun k=>((k : Int),s.Common)) (fun y=>blk s x y) _ _ rfl (fun k y hy=>?_) ?_
    · have hk:=(List.getElem?_eq_some_iff.1 hy).1
      unfold nest_Clear_l1
      have h1 : decide ((k : Int) < (b.length : Int))=true:=by simp; omega
      simp only [h1,if_true,idx_of hy,Option.bind_some,Distance_eq,Overlap_eq]
      rw [iadd_eq (a:=(k : Int)) (by omega) (by omega)]
      unfold blk
      by_cases h2 : ovR x y
      · simp [h2]
      · by_cases h3 : distR x y < s.Gap
        · cases h4 : s.Common
          · simp [h2,h3]
          · by_cases h5 : distR x y=0
            · simp [h2,h5]
            · simp [h2,h3,h5]
        · simp [h2,h3]
    · simp [nest_Clear_l1]
  unfold nest_Clear
  have top : loopT (nest_Clear_l2 a b s) (0,s.Common)=some (if (a.any fun x=>b.any fun y=>blk s x y) then .inl () else .inr ()):=by
    refine loop_anyS a (nest_Clear_l2 a b s) (fun k=>((k : Int),s.Common)) (fun x=>b.any fun y=>blk s x y) _ _ rfl (fun k x hx=>?_) ?_
    · have hk:=(List.getElem?_eq_some_iff.1 hx).1
      unfold nest_Clear_l2
      have h1 : decide ((k : Int) < (a.length : Int))=true:=by simp; omega
      simp only [h1,if_true,idx_of hx,Option.bind_some,inner]
      rw [iadd_eq (a:=(k : Int)) (by omega) (by omega)]
      cases (b.any fun y=>blk s x y) <;> simp
    · simp [nest_Clear_l2]
  rw [top]
  unfold clr
  cases (a.any fun x=>b.any fun y=>blk s x y) <;> rfl
theorem rClear_eq (a b : List Rect) (s : Settings) (ha : a.length≤9223372036854775806) (hb : b.length≤9223372036854775806) : sheetmetalref06_Clear a b s=some (clr s a b):=by
  have inner : ∀ (j : Nat) (x : Rect),a[j]?=some x→loopT (sheetmetalref06_Clear_l1 a b s ((j : Int),s.Common)) (0,s.Common)=some (if (b.any fun y=>blk s x y) then .inl () else .inr s.Common):=by
    intro j x hx
    refine loop_anyS b (sheetmetalref06_Clear_l1 a b s ((j : Int),s.Common)) (fun k=>((k : Int),s.Common)) (fun y=>blk s x y) _ _ rfl (fun k y hy=>?_) ?_
    · have hk:=(List.getElem?_eq_some_iff.1 hy).1
      unfold sheetmetalref06_Clear_l1
      have h1 : decide ((k : Int) < (b.length : Int))=true:=by simp; omega
      simp only [h1,if_true,idx_of hy,idx_of hx,Option.bind_some,Apart_eq,Overlaps_eq]
      rw [iadd_eq (a:=(k : Int)) (by omega) (by omega)]
      unfold blk
      by_cases h2 : ovR x y
      · simp [h2]
      · by_cases h3 : distR x y < s.Gap
        · cases h4 : s.Common
          · simp [h2,h3]
          · by_cases h5 : distR x y=0
            · simp [h2,h5]
            · simp [h2,h3,h5]
        · simp [h2,h3]
    · simp [sheetmetalref06_Clear_l1]
  unfold sheetmetalref06_Clear
  have top : loopT (sheetmetalref06_Clear_l2 a b s) (0,s.Common)=some (if (a.any fun x=>b.any fun y=>blk s x y) then .inl () else .inr ()):=by
    refine loop_anyS a (sheetmetalref06_Clear_l2 a b s) (fun k=>((k : Int),s.Common)) (fun x=>b.any fun y=>blk s x y) _ _ rfl (fun k x hx=>?_) ?_
    · have hk:=(List.getElem?_eq_some_iff.1 hx).1
      unfold sheetmetalref06_Clear_l2
      have h1 : decide ((k : Int) < (a.length : Int))=true:=by simp; omega
      simp only [h1,if_true,Option.bind_some,inner k x hx]
      rw [iadd_eq (a:=(k : Int)) (by omega) (by omega)]
      cases (b.any fun y=>blk s x y) <;> simp
    · simp [sheetmetalref06_Clear_l2]
  rw [top]
  unfold clr
  cases (a.any fun x=>b.any fun y=>blk s x y) <;> rfl
theorem Settings_same (s : Settings) : ∃ b,nest_ValidSettings s=some b∧sheetmetalref06_ValidSettings s=some b:=by
  refine ⟨decide ((0≤s.Gap∧s.Gap≤14400)∧(0≤s.Margin∧s.Margin≤14400)), ?_, ?_⟩
  · unfold nest_ValidSettings
    simp only [from_eq,Option.bind_some]
    by_cases h : 0≤s.Gap∧s.Gap≤14400
    · simp [h]
    · simp only [h,decide_false,false_and]; rfl
  · unfold sheetmetalref06_ValidSettings
    by_cases h1 : s.Gap ≥ 0
    · by_cases h2 : s.Gap≤14400
      · by_cases h3 : s.Margin ≥ 0
        · simp [h1,h2,h3]
        · simp [h1,h2,h3]
      · simp [h1,h2]
    · simp [h1]
end Go.SM
