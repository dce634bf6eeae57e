/- Sheets and settings: both say the same of each. -/
import Derived.Test.YtonmponhpfpokaaGreatRNeNames
set_option linter.unusedVariables false
set_option linter.unusedSimpArgs false
set_option linter.unusedSectionVars false
namespace Go.SM
open Go Go.VI
theorem from_eq (n lo hi : Int) : nest_from n lo hi = some (decide (lo ≤ n ∧ n ≤ hi)):=by
  unfold nest_from
  by_cases h1 : lo ≤ n <;> simp [h1]
theorem plain_eq (g r : Int) : nest_plain g r = some (decide ((1 ≤ g ∧ g ≤ 60) ∧ 0 ≤ r ∧ r ≤ 2)):=by
  unfold nest_plain
  simp only [from_eq,Option.bind_some]
  by_cases h1 : 1 ≤ g ∧ g ≤ 60
  · simp [h1]
  · simp only [h1,decide_false,false_and]; rfl
theorem stuff_eq {n m : ByteArray} {a b : Bool} (hn : sheetmetalref02_ValidName n = some a) (hm : sheetmetalref02_ValidName m = some b) (g r : Int) : sheetmetalref06_stuff n m g r = some (if a && b then (if (1 ≤ g ∧ g ≤ 60) ∧ 0 ≤ r ∧ r ≤ 2 then 0 else 1) else 2):=by
  unfold sheetmetalref06_stuff
  rw [hn,hm]
  cases a
  · rfl
  · cases b
    · rfl
    · by_cases h1 : g < 1
      · have : ¬ ((1 ≤ g ∧ g ≤ 60) ∧ 0 ≤ r ∧ r ≤ 2):=by omega
        simp [h1,this]
      · by_cases h2 : g > 60
        · have : ¬ ((1 ≤ g ∧ g ≤ 60) ∧ 0 ≤ r ∧ r ≤ 2):=by omega
          simp [h1,h2,this]
        · by_cases h3 : r < 0
          · have : ¬ ((1 ≤ g ∧ g ≤ 60) ∧ 0 ≤ r ∧ r ≤ 2):=by omega
            simp [h1,h2,h3,this]
          · by_cases h4 : r > 2
            · have : ¬ ((1 ≤ g ∧ g ≤ 60) ∧ 0 ≤ r ∧ r ≤ 2):=by omega
              simp [h1,h2,h3,h4,this]
            · have : ((1 ≤ g ∧ g ≤ 60) ∧ 0 ≤ r ∧ r ≤ 2):=by omega
              simp [h1,h2,h3,h4,this]
theorem valid_eq (l : List Rect) (hl : l.length ≤ 9223372036854775806) : nest_valid l = some (!(l.any fun x=>!decide (vR x))):=by
  have key : loopT (nest_valid_l1 l) 0 = some (if (l.any fun x=>!decide (vR x)) then .inl () else .inr ()):=by
    refine loop_anyS l (nest_valid_l1 l) (fun k=>(k : Int)) _ _ _ rfl (fun k x hx=>?_) ?_
    · have hk:=(List.getElem?_eq_some_iff.1 hx).1
      unfold nest_valid_l1
      have h1 : decide ((k : Int) < (l.length : Int)) = true:=by simp; omega
      simp only [h1,if_true,idx_of hx,Option.bind_some,ValidRect_eq]
      rw [iadd_eq (a:=(k : Int)) (by omega) (by omega)]
      rfl
    · simp [nest_valid_l1]
  unfold nest_valid
  rw [key]
  cases (l.any fun x=>!decide (vR x)) <;> rfl
theorem Rights_eq (l : List Rect) (hl : l.length ≤ 9223372036854775806) : sheetmetalref06_Rights l = some (!(l.any fun x=>!decide (vR x))):=by
  have key : loopT (sheetmetalref06_Rights_l1 l) 0 = some (if (l.any fun x=>!decide (vR x)) then .inl () else .inr ()):=by
    refine loop_anyS l (sheetmetalref06_Rights_l1 l) (fun k=>(k : Int)) _ _ _ rfl (fun k x hx=>?_) ?_
    · have hk:=(List.getElem?_eq_some_iff.1 hx).1
      unfold sheetmetalref06_Rights_l1
      have h1 : decide ((k : Int) < (l.length : Int)) = true:=by simp; omega
      simp only [h1,if_true,idx_of hx,Option.bind_some,Right_eq]
      rw [iadd_eq (a:=(k : Int)) (by omega) (by omega)]
      rfl
    · simp [sheetmetalref06_Rights_l1]
  unfold sheetmetalref06_Rights
  rw [key]
  cases (l.any fun x=>!decide (vR x)) <;> rfl
end Go.SM
