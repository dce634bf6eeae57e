/- The Go functions as plain functions; written by a program out of the translation. -/
import Derived.Test.YtppmnjiibmomoaaSeMP
set_option linter.unusedVariables false
set_option linter.unusedSimpArgs false
set_option linter.unusedSectionVars false
namespace Go.SM
open Go Go.VI
noncomputable def sheetmetalref05_Best_k1 (s357 : (List Int) × Int × Int) : ((List Int) × Int) → Option (((List Int) × Int × Int) ⊕ ((List Int) × Int)) := fun j485 =>
  some (.inl (j485.1, j485.2, (iadd s357.2.2 1)))
noncomputable def sheetmetalref05_Best_l2 : Int × Int × (List Int) → Option (Int × Int × (List Int) ⊕ Int × (List Int)) := fun s508 =>
  if (decide (s508.2.1 ≥ 0)) then ((idx s508.2.2 s508.2.1).bind fun x516 => some (.inl ((iquo s508.1 4), (isub s508.2.1 1), (List.set s508.2.2 (Int.toNat s508.2.1) (Int.tmod s508.1 4))))) else (some (.inr (s508.1, s508.2.2)))
noncomputable def sheetmetalref05_Best_l3 (jobs : (List (List (List Int)))) (stations : Int) : ((List Int) × Int × Int) → Option (((List Int) × Int × Int) ⊕ ((List Int) × Int)) := fun s357 =>
  if (decide (s357.2.2 < 256)) then ((mk (jobs.length : Int) 0).bind fun l487 => (loopT (sheetmetalref05_Best_l2) (s357.2.2, (isub (jobs.length : Int) 1), l487)).bind fun x517 => (if (decide (x517.1 > 0)) then (some true) else ((sheetmetalref05_permutation x517.2 (jobs.length : Int)).bind fun r523 => some (!r523))).bind fun j522 => if j522 then (sheetmetalref05_Best_k1 s357 (s357.1, s357.2.1)) else ((sheetmetalref05_join jobs x517.2).bind fun r526 => (sheetmetalref05_Fewest r526 stations).bind fun r527 => if (decide (r527 < s357.2.1)) then (sheetmetalref05_Best_k1 s357 (x517.2, r527)) else (sheetmetalref05_Best_k1 s357 (s357.1, s357.2.1)))) else (some (.inr (s357.1, s357.2.1)))
noncomputable def sheetmetalref05_Best (jobs : (List (List (List Int)))) (stations : Int) : Option ((List Int) × Int × Int) :=
  (sheetmetalref05_jobsError jobs).bind fun r4 => if (r4 != 0) then (some ([], 0, r4)) else ((sheetmetalref05_within stations 1 3).bind fun r8 => if (!r8) then (some ([], 0, 1)) else ((sheetmetalref05_total jobs).bind fun r12 => if (decide (r12 > 24)) then (some ([], 0, 4)) else ((loopT (sheetmetalref05_Best_l3 jobs stations) ([], 1000, 0)).bind fun x528 => some (x528.1, x528.2, 0))))
noncomputable def sheetmetallaw05_SetupBest (jobs : (List (List (List Int)))) (stations : Int) : Option (Bool) :=
  ((sheetmetallaw05_wide jobs).bind fun r14 => if r14 then (some true) else ((sheetmetallaw05_total jobs).bind fun r15 => if (decide (r15 > 10)) then ((sheetmetallaw05_total jobs).bind fun r16 => some (decide (r16 ≤ 24))) else (some false))).bind fun j13 => if j13 then ((sheetmetallaw05_known).bind fun r18 => some r18) else ((setup_Best jobs stations).bind fun r20 => (sheetmetalref05_Best jobs stations).bind fun r22 => (if (r20.2.1 == r22.2.1) then (if (r20.2.2 == r22.2.2) then ((sheetmetalref01_SameInts r20.1 r22.1).bind fun r26 => if r26 then ((sheetmetallaw05_known).bind fun r27 => some r27) else (some false)) else (some false)) else (some false)).bind fun j25 => some j25)
end Go.SM
