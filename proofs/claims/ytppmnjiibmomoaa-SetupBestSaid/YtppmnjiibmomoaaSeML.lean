/- The Go functions as plain functions; written by a program out of the translation. -/
import Derived.Test.YtppmnjiibmomoaaSeMJ
set_option linter.unusedVariables false
set_option linter.unusedSimpArgs false
set_option linter.unusedSectionVars false
namespace Go.SM
open Go Go.VI
noncomputable def sheetmetallaw05_total_l1 (jobs : (List (List (List Int)))) : (Int × Int) → Option ((Int × Int) ⊕ Int) := fun s21 =>
  if (decide (s21.2 < (jobs.length : Int))) then ((idx jobs s21.2).bind fun x29 => some (.inl ((iadd s21.1 (x29.length : Int)), (iadd s21.2 1)))) else (some (.inr s21.1))
noncomputable def sheetmetallaw05_total (jobs : (List (List (List Int)))) : Option (Int) :=
  (loopT (sheetmetallaw05_total_l1 jobs) (0, 0)).bind fun x30 => some x30
noncomputable def setup_Best_1'_k1 : Int × (List Int) → Option (Int × (List Int)) := fun j23 =>
  some (j23.1, j23.2)
noncomputable def setup_Best_1'_k2 (s55 : Int × Int × (List Int)) : Int × (List Int) → Option (Int × Int × (List Int) ⊕ Int × (List Int)) := fun j90 =>
  some (.inl ((iadd s55.1 1), j90.1, j90.2))
noncomputable def setup_Best_1'_l3 (self : (List Int) → Int → (List Int) → (List (List (List Int))) → Int → Option (Int × (List Int))) (order : (List Int)) (h3_0 : (List (List (List Int)))) (h4_0 : Int) : Int × Int × (List Int) → Option (Int × Int × (List Int) ⊕ Int × (List Int)) := fun s55 =>
  if (decide (s55.1 < (h3_0.length : Int))) then ((slices_Contains_Lint_int order s55.1).bind fun r92 => if (!r92) then ((slices_Clone_Lint_int order).bind fun r99 => (app r99 [s55.1]).bind fun l100 => (self l100 s55.2.1 s55.2.2 h3_0 h4_0).bind fun r101 => setup_Best_1'_k2 s55 (r101.1, r101.2)) else (setup_Best_1'_k2 s55 (s55.2.1, s55.2.2))) else (some (.inr (s55.2.1, s55.2.2)))
noncomputable def setup_Best_1'_body (self : (List Int) → Int → (List Int) → (List (List (List Int))) → Int → Option (Int × (List Int))) (order : (List Int)) (h0_0 : Int) (h1_0 : (List Int)) (h3_0 : (List (List (List Int)))) (h4_0 : Int) : Option (Int × (List Int)) :=
  if ((order.length : Int) == (h3_0.length : Int)) then ((setup_join h3_0 order).bind fun r28 => (setup_fewest r28 h4_0).bind fun r29 => (if (decide (h0_0 < 0)) then (some true) else (some (decide (r29 < h0_0)))).bind fun j30 => if j30 then (setup_Best_1'_k1 (r29, order)) else (setup_Best_1'_k1 (h0_0, h1_0))) else ((loopT (setup_Best_1'_l3 self order h3_0 h4_0) (0, h0_0, h1_0)).bind fun x102 => some (x102.1, x102.2))
noncomputable def setup_Best_1'_n : Nat → (List Int) → Int → (List Int) → (List (List (List Int))) → Int → Option (Int × (List Int))
  | 0 => fun _ _ _ _ _ => none
  | n + 1 => setup_Best_1'_body (setup_Best_1'_n n)
noncomputable def setup_Best_1' (order : (List Int)) (h0_0 : Int) (h1_0 : (List Int)) (h3_0 : (List (List (List Int)))) (h4_0 : Int) : Option (Int × (List Int)) := setup_Best_1'_n 1000 order h0_0 h1_0 h3_0 h4_0
noncomputable def setup_Best_1_k1 : Int × (List Int) → Option (Int × (List Int)) := fun j23 =>
  some (j23.1, j23.2)
noncomputable def setup_Best_1_k2 (s55 : Int × Int × (List Int)) : Int × (List Int) → Option (Int × Int × (List Int) ⊕ Int × (List Int)) := fun j90 =>
  some (.inl ((iadd s55.1 1), j90.1, j90.2))
noncomputable def setup_Best_1_l3 (order : (List Int)) (h4_0 : (List (List (List Int)))) (h5_0 : Int) : Int × Int × (List Int) → Option (Int × Int × (List Int) ⊕ Int × (List Int)) := fun s55 =>
  if (decide (s55.1 < (h4_0.length : Int))) then ((slices_Contains_Lint_int order s55.1).bind fun r92 => if (!r92) then ((slices_Clone_Lint_int order).bind fun r99 => (app r99 [s55.1]).bind fun l100 => (setup_Best_1' l100 s55.2.1 s55.2.2 h4_0 h5_0).bind fun r101 => setup_Best_1_k2 s55 (r101.1, r101.2)) else (setup_Best_1_k2 s55 (s55.2.1, s55.2.2))) else (some (.inr (s55.2.1, s55.2.2)))
noncomputable def setup_Best_1_body (self : (List Int) → Int → (List Int) → (List (List (List Int))) → Int → Option (Int × (List Int))) (order : (List Int)) (h0_0 : Int) (h2 : (List Int)) (h4_0 : (List (List (List Int)))) (h5_0 : Int) : Option (Int × (List Int)) :=
  if ((order.length : Int) == (h4_0.length : Int)) then ((setup_join h4_0 order).bind fun r28 => (setup_fewest r28 h5_0).bind fun r29 => (if (decide (h0_0 < 0)) then (some true) else (some (decide (r29 < h0_0)))).bind fun j30 => if j30 then (setup_Best_1_k1 (r29, order)) else (setup_Best_1_k1 (h0_0, h2))) else ((loopT (setup_Best_1_l3 order h4_0 h5_0) (0, h0_0, h2)).bind fun x102 => some (x102.1, x102.2))
noncomputable def setup_Best_1_n : Nat → (List Int) → Int → (List Int) → (List (List (List Int))) → Int → Option (Int × (List Int))
  | 0 => fun _ _ _ _ _ => none
  | n + 1 => setup_Best_1_body (setup_Best_1_n n)
noncomputable def setup_Best_1 (order : (List Int)) (h0_0 : Int) (h2 : (List Int)) (h4_0 : (List (List (List Int)))) (h5_0 : Int) : Option (Int × (List Int)) := setup_Best_1_n 1000 order h0_0 h2 h4_0 h5_0
noncomputable def setup_Best (jobs : (List (List (List Int)))) (stations : Int) : Option ((List Int) × Int × Int) :=
  (setup_checkJobs jobs).bind fun r4 => if (r4 != 0) then (some ([], 0, r4)) else ((if (decide (stations < 1)) then (some true) else (some (decide (stations > 3)))).bind fun j6 => if j6 then (some ([], 0, 1)) else ((setup_tooMany jobs).bind fun r10 => if r10 then (some ([], 0, 4)) else ((setup_Best_1 [] (-1) [] jobs stations).bind fun r12 => some (r12.2, r12.1, 0))))
noncomputable def sheetmetallaw05_SetupBestLeast (jobs : (List (List (List Int)))) (stations : Int) (order : (List Int)) : Option (Bool) :=
  ((sheetmetallaw05_wide jobs).bind fun r14 => if r14 then (some true) else (if (decide ((order.length : Int) > 60)) then (some true) else ((sheetmetallaw05_total jobs).bind fun r15 => if (decide (r15 > 10)) then ((sheetmetallaw05_total jobs).bind fun r16 => some (decide (r16 ≤ 24))) else (some false)))).bind fun j13 => if j13 then ((sheetmetallaw05_known).bind fun r18 => some r18) else ((setup_Best jobs stations).bind fun r20 => if (r20.2.2 != 0) then ((if (r20.2.1 == 0) then (if ((r20.1.length : Int) == 0) then ((sheetmetallaw05_known).bind fun r26 => some r26) else (some false)) else (some false)).bind fun j25 => some j25) else ((setup_Join jobs r20.1).bind fun r28 => (setup_Least r28.1 stations).bind fun r30 => (if (r28.2 != 0) then (some true) else (if (r30.2 != 0) then (some true) else (some (r30.1 != r20.2.1)))).bind fun j32 => if j32 then (some false) else ((setup_Join jobs order).bind fun r34 => if (r34.2 != 0) then ((sheetmetallaw05_known).bind fun r38 => some r38) else ((setup_Least r34.1 stations).bind fun r40 => (if (r40.2 == 0) then (if (decide (r20.2.1 ≤ r40.1)) then ((sheetmetallaw05_known).bind fun r43 => some r43) else (some false)) else (some false)).bind fun j42 => some j42))))
end Go.SM
