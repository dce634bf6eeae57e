/- The Go functions as plain functions; written by a program out of the translation. -/
import Derived.Test.YtppmnjiibmomoaaSeMB
set_option linter.unusedVariables false
set_option linter.unusedSimpArgs false
set_option linter.unusedSectionVars false
namespace Go.SM
open Go Go.VI
noncomputable def sheetmetallaw05_wide_l1 (jobs : (List (List (List Int)))) : Int → Option (Int ⊕ (Unit ⊕ Unit)) := fun s39 =>
  if (decide (s39 < (jobs.length : Int))) then ((idx jobs s39).bind fun x54 => (sheetmetallaw05_Long x54).bind fun r55 => if r55 then (some (.inr (.inl ()))) else (some (.inl (iadd s39 1)))) else (some (.inr (.inr (()))))
noncomputable def sheetmetallaw05_wide (jobs : (List (List (List Int)))) : Option (Bool) :=
  if (decide ((jobs.length : Int) > 20)) then (some true) else ((loopT (sheetmetallaw05_wide_l1 jobs) 0).bind fun x56 => match x56 with | .inl j57 => some true | .inr j58 => some false)
noncomputable def setup_checkJobs_l1 (jobs : (List (List (List Int)))) : Int → Option (Int ⊕ (Int ⊕ Unit)) := fun s39 =>
  if (decide (s39 < (jobs.length : Int))) then ((idx jobs s39).bind fun x53 => (setup_Validate x53).bind fun r55 => if (r55 != 0) then (some (.inr (.inl r55))) else (some (.inl (iadd s39 1)))) else (some (.inr (.inr (()))))
noncomputable def setup_checkJobs (jobs : (List (List (List Int)))) : Option (Int) :=
  if (decide ((jobs.length : Int) > 4)) then (some 4) else ((loopT (setup_checkJobs_l1 jobs) 0).bind fun x56 => match x56 with | .inl j57 => some j57 | .inr j58 => some 0)
noncomputable def setup_isPermutation_l1 (order : (List Int)) (n : Int) : Int → Option (Int ⊕ (Unit ⊕ Unit)) := fun s63 =>
  if (decide (s63 < (order.length : Int))) then ((idx order s63).bind fun x86 => (if (decide (x86 < 0)) then (some true) else (if (decide (x86 ≥ n)) then (some true) else ((slc order 0 s63).bind fun l90 => (slices_Contains_Lint_int l90 x86).bind fun r91 => some r91))).bind fun j89 => if j89 then (some (.inr (.inl ()))) else (some (.inl (iadd s63 1)))) else (some (.inr (.inr (()))))
noncomputable def setup_isPermutation (order : (List Int)) (n : Int) : Option (Bool) :=
  if ((order.length : Int) != n) then (some false) else ((loopT (setup_isPermutation_l1 order n) 0).bind fun x92 => match x92 with | .inl j93 => some false | .inr j94 => some true)
noncomputable def setup_tooMany_l1 (jobs : (List (List (List Int)))) : (Int × Int) → Option ((Int × Int) ⊕ Int) := fun s21 =>
  if (decide (s21.2 < (jobs.length : Int))) then ((idx jobs s21.2).bind fun x29 => some (.inl ((iadd s21.1 (x29.length : Int)), (iadd s21.2 1)))) else (some (.inr s21.1))
noncomputable def setup_tooMany (jobs : (List (List (List Int)))) : Option (Bool) :=
  (loopT (setup_tooMany_l1 jobs) (0, 0)).bind fun x30 => some (decide (x30 > 24))
noncomputable def slices_Clone_Lint_int (s : (List Int)) : Option (List Int) := app [] s
noncomputable def setup_join_l1 (x482 : (List (List Int))) : Int × (List (List Int)) → Option (Int × (List (List Int)) ⊕ (List (List Int))) := fun s496 =>
  if (decide (s496.1 < (x482.length : Int))) then ((idx x482 s496.1).bind fun x516 => (slices_Clone_Lint_int x516).bind fun r519 => (app s496.2 [r519]).bind fun l520 => some (.inl ((iadd s496.1 1), l520))) else (some (.inr s496.2))
noncomputable def setup_join_l2 (jobs : (List (List (List Int)))) (order : (List Int)) : Int × (List (List Int)) → Option (Int × (List (List Int)) ⊕ (List (List Int))) := fun s349 =>
  if (decide (s349.1 < (order.length : Int))) then ((idx order s349.1).bind fun x480 => (idx jobs x480).bind fun x482 => (loopT (setup_join_l1 x482) (0, s349.2)).bind fun x521 => some (.inl ((iadd s349.1 1), x521))) else (some (.inr s349.2))
noncomputable def setup_join (jobs : (List (List (List Int)))) (order : (List Int)) : Option ((List (List Int))) :=
  (loopT (setup_join_l2 jobs order) (0, [])).bind fun x522 => some x522
noncomputable def setup_Join (jobs : (List (List (List Int)))) (order : (List Int)) : Option ((List (List Int)) × Int) :=
  (setup_checkJobs jobs).bind fun r4 => if (r4 != 0) then (some ([], r4)) else ((setup_isPermutation order (jobs.length : Int)).bind fun r8 => if (!r8) then (some ([], 1)) else ((setup_tooMany jobs).bind fun r12 => if r12 then (some ([], 4)) else ((setup_join jobs order).bind fun r14 => some (r14, 0))))
noncomputable def sheetmetalref05_jobsError_l1 (jobs : (List (List (List Int)))) : Int → Option (Int ⊕ (Int ⊕ Unit)) := fun s39 =>
  if (decide (s39 < (jobs.length : Int))) then ((idx jobs s39).bind fun x54 => (sheetmetalref05_Validate x54).bind fun r55 => if (r55 != 0) then (some (.inr (.inl r55))) else (some (.inl (iadd s39 1)))) else (some (.inr (.inr (()))))
noncomputable def sheetmetalref05_jobsError (jobs : (List (List (List Int)))) : Option (Int) :=
  if (decide ((jobs.length : Int) > 4)) then (some 4) else ((loopT (sheetmetalref05_jobsError_l1 jobs) 0).bind fun x56 => match x56 with | .inl j57 => some j57 | .inr j58 => some 0)
noncomputable def sheetmetalref05_permutation_l1 (order : (List Int)) (n : Int) : Int × (List Bool) → Option (Int × (List Bool) ⊕ (Unit ⊕ Unit)) := fun s185 =>
  if (decide (s185.1 < n)) then (((idx order s185.1).bind fun x266 => (sheetmetalref05_within x266 0 (isub n 1)).bind fun r267 => if r267 then ((idx order s185.1).bind fun x268 => (idx s185.2 x268).bind fun x269 => some x269) else (some true)).bind fun j265 => if j265 then (some (.inr (.inl ()))) else ((idx order s185.1).bind fun x272 => (idx s185.2 x272).bind fun x273 => some (.inl ((iadd s185.1 1), (List.set s185.2 (Int.toNat x272) true))))) else (some (.inr (.inr (()))))
noncomputable def sheetmetalref05_permutation (order : (List Int)) (n : Int) : Option (Bool) :=
  if ((order.length : Int) != n) then (some false) else ((mk n false).bind fun l2 => (loopT (sheetmetalref05_permutation_l1 order n) (0, l2)).bind fun x274 => match x274 with | .inl j275 => some false | .inr j276 => some true)
noncomputable def sheetmetalref05_total_l1 (jobs : (List (List (List Int)))) : (Int × Int) → Option ((Int × Int) ⊕ Int) := fun s21 =>
  if (decide (s21.2 < (jobs.length : Int))) then ((idx jobs s21.2).bind fun x29 => some (.inl ((iadd s21.1 (x29.length : Int)), (iadd s21.2 1)))) else (some (.inr s21.1))
noncomputable def sheetmetalref05_total (jobs : (List (List (List Int)))) : Option (Int) :=
  (loopT (sheetmetalref05_total_l1 jobs) (0, 0)).bind fun x30 => some x30
noncomputable def sheetmetalref05_CopySet_l1 (l : (List Int)) : Int × (List Int) → Option (Int × (List Int) ⊕ (List Int)) := fun s37 =>
  if (decide (s37.1 < (l.length : Int))) then ((idx l s37.1).bind fun x52 => (app s37.2 [x52]).bind fun l53 => some (.inl ((iadd s37.1 1), l53))) else (some (.inr s37.2))
noncomputable def sheetmetalref05_CopySet (l : (List Int)) : Option ((List Int)) :=
  (loopT (sheetmetalref05_CopySet_l1 l) (0, [])).bind fun x54 => some x54
noncomputable def sheetmetalref05_join_l1 (x482 : (List (List Int))) : Int × (List (List Int)) → Option (Int × (List (List Int)) ⊕ (List (List Int))) := fun s496 =>
  if (decide (s496.1 < (x482.length : Int))) then ((idx x482 s496.1).bind fun x518 => (sheetmetalref05_CopySet x518).bind fun r519 => (app s496.2 [r519]).bind fun l520 => some (.inl ((iadd s496.1 1), l520))) else (some (.inr s496.2))
noncomputable def sheetmetalref05_join_l2 (jobs : (List (List (List Int)))) (order : (List Int)) : Int × (List (List Int)) → Option (Int × (List (List Int)) ⊕ (List (List Int))) := fun s349 =>
  if (decide (s349.1 < (order.length : Int))) then ((idx order s349.1).bind fun x481 => (idx jobs x481).bind fun x482 => (loopT (sheetmetalref05_join_l1 x482) (0, s349.2)).bind fun x521 => some (.inl ((iadd s349.1 1), x521))) else (some (.inr s349.2))
noncomputable def sheetmetalref05_join (jobs : (List (List (List Int)))) (order : (List Int)) : Option ((List (List Int))) :=
  (loopT (sheetmetalref05_join_l2 jobs order) (0, [])).bind fun x522 => some x522
noncomputable def sheetmetalref05_Join (jobs : (List (List (List Int)))) (order : (List Int)) : Option ((List (List Int)) × Int) :=
  (sheetmetalref05_jobsError jobs).bind fun r4 => if (r4 != 0) then (some ([], r4)) else ((sheetmetalref05_permutation order (jobs.length : Int)).bind fun r8 => if (!r8) then (some ([], 1)) else ((sheetmetalref05_total jobs).bind fun r12 => if (decide (r12 > 24)) then (some ([], 4)) else ((sheetmetalref05_join jobs order).bind fun r14 => some (r14, 0))))
noncomputable def sheetmetalref05_SameNeeds_l1 (a : (List (List Int))) (b : (List (List Int))) (s815 : Int) : Int → Option (Int ⊕ (Unit ⊕ Unit)) := fun s1160 =>
  (idx a s815).bind fun x1192 => if (decide (s1160 < (x1192.length : Int))) then ((idx a s815).bind fun x1213 => (idx x1213 s1160).bind fun x1214 => (idx b s815).bind fun x1215 => (idx x1215 s1160).bind fun x1216 => if (x1214 != x1216) then (some (.inr (.inl ()))) else (some (.inl (iadd s1160 1)))) else (some (.inr (.inr (()))))
noncomputable def sheetmetalref05_SameNeeds_l2 (a : (List (List Int))) (b : (List (List Int))) : Int → Option (Int ⊕ (Unit ⊕ Unit)) := fun s815 =>
  if (decide (s815 < (a.length : Int))) then ((idx a s815).bind fun x1129 => (idx b s815).bind fun x1130 => if ((x1129.length : Int) != (x1130.length : Int)) then (some (.inr (.inl ()))) else ((loopT (sheetmetalref05_SameNeeds_l1 a b s815) 0).bind fun x1217 => match x1217 with | .inl j1218 => some (.inr (.inl ())) | .inr j1219 => some (.inl (iadd s815 1)))) else (some (.inr (.inr (()))))
noncomputable def sheetmetalref05_SameNeeds (a : (List (List Int))) (b : (List (List Int))) : Option (Bool) :=
  if ((a.length : Int) != (b.length : Int)) then (some false) else ((loopT (sheetmetalref05_SameNeeds_l2 a b) 0).bind fun x1220 => match x1220 with | .inl j1221 => some false | .inr j1222 => some true)
noncomputable def sheetmetallaw05_SetupJoins_l1 (s334 : Int × (List (List Int))) : Int × (List (List Int)) → Option (Int × (List (List Int)) ⊕ (List (List Int))) := fun s465 =>
  (idx s465.2 s334.1).bind fun x481 => if (decide (s465.1 < (x481.length : Int))) then ((idx s465.2 s334.1).bind fun x488 => (idx x488 s465.1).bind fun x489 => some (.inl ((iadd s465.1 1), (List.set s465.2 (Int.toNat s334.1) (List.set x488 (Int.toNat s465.1) 77))))) else (some (.inr s465.2))
noncomputable def sheetmetallaw05_SetupJoins_l2 : Int × (List (List Int)) → Option (Int × (List (List Int)) ⊕ Unit) := fun s334 =>
  if (decide (s334.1 < (s334.2.length : Int))) then ((loopT (sheetmetallaw05_SetupJoins_l1 s334) (0, s334.2)).bind fun x490 => some (.inl ((iadd s334.1 1), x490))) else (some (.inr ()))
noncomputable def sheetmetallaw05_SetupJoins (jobs : (List (List (List Int)))) (order : (List Int)) : Option (Bool) :=
  ((sheetmetallaw05_wide jobs).bind fun r8 => if r8 then (some true) else (some (decide ((order.length : Int) > 60)))).bind fun j7 => if j7 then ((sheetmetallaw05_known).bind fun r10 => some r10) else ((setup_Join jobs order).bind fun r12 => (sheetmetalref05_Join jobs order).bind fun r14 => (if (r12.2 == r14.2) then ((sheetmetalref05_SameNeeds r12.1 r14.1).bind fun r17 => some r17) else (some false)).bind fun j16 => (loopT (sheetmetallaw05_SetupJoins_l2) (0, r12.1)).bind fun x491 => (sheetmetalref05_Join jobs order).bind fun r493 => (if j16 then (if (r493.2 == r14.2) then ((sheetmetalref05_SameNeeds r14.1 r493.1).bind fun r497 => if r497 then ((sheetmetallaw05_known).bind fun r498 => some r498) else (some false)) else (some false)) else (some false)).bind fun j496 => some j496)
end Go.SM
