/- The Go functions as plain functions; written by a program out of the translation. -/
import Derived.Test.YtppmnjiibmomoaaSeML
set_option linter.unusedVariables false
set_option linter.unusedSimpArgs false
set_option linter.unusedSectionVars false
namespace Go.SM
open Go Go.VI
noncomputable def setup_mount_1 (x0 : Int) : Option (Bool) :=
  some (decide (x0 < 0))
noncomputable def slices_IndexFunc_Lint_int__setup_mount_1_l1 (s0 : (List Int)) : Int → Option (Int ⊕ (Int ⊕ Unit)) := fun s39 =>
  if (decide (s39 < (s0.length : Int))) then ((idx s0 s39).bind fun x54 => (setup_mount_1 x54).bind fun r55 => if r55 then (some (.inr (.inl s39))) else (some (.inl (iadd s39 1)))) else (some (.inr (.inr (()))))
noncomputable def slices_IndexFunc_Lint_int__setup_mount_1 (s0 : (List Int)) : Option (Int) :=
  (loopT (slices_IndexFunc_Lint_int__setup_mount_1_l1 s0) 0).bind fun x56 => match x56 with | .inl j57 => some j57 | .inr j58 => some (-1)
noncomputable def setup_mount_2 (x0 : Int) (a_0 : Int) : Option (Bool) :=
  if (decide (0 ≤ x0)) then (some ((kand .i64 (Int.fdiv a_0 (2 ^ (min (Int.toNat x0) 64))) 1) == 0)) else none
noncomputable def slices_IndexFunc_Lint_int__setup_mount_2_l1 (s0 : (List Int)) (f_0_0 : Int) : Int → Option (Int ⊕ (Int ⊕ Unit)) := fun s39 =>
  if (decide (s39 < (s0.length : Int))) then ((idx s0 s39).bind fun x54 => (setup_mount_2 x54 f_0_0).bind fun r55 => if r55 then (some (.inr (.inl s39))) else (some (.inl (iadd s39 1)))) else (some (.inr (.inr (()))))
noncomputable def slices_IndexFunc_Lint_int__setup_mount_2 (s0 : (List Int)) (f_0_0 : Int) : Option (Int) :=
  (loopT (slices_IndexFunc_Lint_int__setup_mount_2_l1 s0 f_0_0) 0).bind fun x56 => match x56 with | .inl j57 => some j57 | .inr j58 => some (-1)
noncomputable def setup_mount_k1 (s145 : Int × (List Change) × (List Int)) : ((List Change) × (List Int)) → Option ((Int × (List Change) × (List Int)) ⊕ ((List Change) × (List Int))) := fun j198 =>
  some (.inl ((iadd s145.1 1), j198.1, j198.2))
noncomputable def setup_mount_k2 (step : Int) (s145 : Int × (List Change) × (List Int)) : Int → Option ((Int × (List Change) × (List Int)) ⊕ ((List Change) × (List Int))) := fun j209 =>
  (idx s145.2.2 j209).bind fun x211 => (app s145.2.1 [(Change.mk step j209 s145.1)]).bind fun l213 => setup_mount_k1 s145 (l213, (List.set s145.2.2 (Int.toNat j209) s145.1))
noncomputable def setup_mount_l3 (set1 : Int) (step : Int) : (Int × (List Change) × (List Int)) → Option ((Int × (List Change) × (List Int)) ⊕ ((List Change) × (List Int))) := fun s145 =>
  if (decide (s145.1 < 9)) then ((if (decide (0 ≤ s145.1)) then (if ((kand .i64 (Int.fdiv set1 (2 ^ (min (Int.toNat s145.1) 64))) 1) == 0) then (some true) else ((slices_Contains_Lint_int s145.2.2 s145.1).bind fun r204 => some r204)) else none).bind fun j203 => if j203 then (setup_mount_k1 s145 (s145.2.1, s145.2.2)) else ((slices_IndexFunc_Lint_int__setup_mount_1 s145.2.2).bind fun r206 => if (decide (r206 < 0)) then ((slices_IndexFunc_Lint_int__setup_mount_2 s145.2.2 set1).bind fun r215 => setup_mount_k2 step s145 r215) else (setup_mount_k2 step s145 r206))) else (some (.inr (s145.2.1, s145.2.2)))
noncomputable def setup_mount (set1 : Int) (step : Int) (h0 : (List Int)) : Option ((List Change) × (List Int)) :=
  (loopT (setup_mount_l3 set1 step) (0, [], h0)).bind fun x216 => some (x216.1, x216.2)
noncomputable def setup_Plan_k1 (s137 : Int × (List Int)) : (List Int) → Option (Int × (List Int) ⊕ (List Int)) := fun j184 =>
  some (.inl ((isub s137.1 1), j184))
noncomputable def setup_Plan_l2 (r6 : (List setup_stage)) : Int × (List Int) → Option (Int × (List Int) ⊕ (List Int)) := fun s137 =>
  if (decide (s137.1 ≥ 0)) then (if (s137.1 == (isub (r6.length : Int) 1)) then ((idx r6 s137.1).bind fun x188 => (setup_stage_best x188).bind fun r189 => (idx s137.2 s137.1).bind fun x190 => setup_Plan_k1 s137 (List.set s137.2 (Int.toNat s137.1) r189)) else ((idx r6 (iadd s137.1 1)).bind fun x197 => (idx s137.2 (iadd s137.1 1)).bind fun x198 => (idx s137.2 s137.1).bind fun x199 => setup_Plan_k1 s137 (List.set s137.2 (Int.toNat s137.1) ((mfind x197.before x198).getD 0)))) else (some (.inr s137.2))
noncomputable def setup_Plan_l3 (x200 : (List Int)) : (Int × (List Int) × (List Change)) → Option ((Int × (List Int) × (List Change)) ⊕ (List Change)) := fun s255 =>
  if (decide (s255.1 < (x200.length : Int))) then ((idx x200 s255.1).bind fun x275 => (setup_mount x275 s255.1 s255.2.1).bind fun r278 => (app s255.2.2 r278.1).bind fun l279 => some (.inl ((iadd s255.1 1), r278.2, l279))) else (some (.inr s255.2.2))
noncomputable def setup_Plan (needs : (List (List Int))) (stations : Int) : Option ((List Change) × Int) :=
  (setup_check needs stations).bind fun r4 => if (r4 != 0) then (some ([], r4)) else ((setup_stages needs stations).bind fun r6 => (mk (r6.length : Int) 0).bind fun l8 => (loopT (setup_Plan_l2 r6) ((isub (r6.length : Int) 1), l8)).bind fun x200 => (slices_Repeat_Lint_int [(-1)] stations).bind fun r202 => (loopT (setup_Plan_l3 x200) (0, r202, [])).bind fun x280 => some (x280, 0))
noncomputable def sheetmetaltop_TopSetups (x0 : sheetmetallaw05_Rig) (l : (List Change)) (w : (List Window)) : Option (Bool) :=
  (setup_Least [[0]] 1).bind fun r2 => (if (r2.2 != 0) then (some true) else (some (r2.1 != 1))).bind fun j4 => if j4 then (some false) else (((sheetmetallaw05_Long x0.Needs).bind fun r10 => if r10 then (some true) else (if (decide ((x0.Needs.length : Int) > 12)) then (some true) else (if (decide ((l.length : Int) > 60)) then (some true) else (some (decide ((w.length : Int) > 40)))))).bind fun j9 => if j9 then (some true) else ((setup_Least x0.Needs x0.Stations).bind fun r12 => (setup_Plan x0.Needs x0.Stations).bind fun r14 => if (r12.2 != r14.2) then (some false) else (if (r12.2 != 0) then ((if (r12.1 == 0) then (some ((r14.1.length : Int) == 0)) else (some false)).bind fun j16 => some j16) else ((setup_CheckBound x0.Needs x0.Stations w).bind fun r18 => (setup_Bound x0.Needs x0.Stations).bind fun r20 => (setup_CheckBound x0.Needs x0.Stations r20.1).bind fun r22 => (if ((r14.1.length : Int) != r12.1) then (some true) else ((setup_Check x0.Needs x0.Stations r14.1).bind fun r28 => if (r28 != 0) then (some true) else (if (r20.2 != 0) then (some true) else (if (r22.2 != 0) then (some true) else (if (decide (r22.1 > r12.1)) then (some true) else (if (r18.2 == 0) then (some (decide (r18.1 > r12.1))) else (some false))))))).bind fun j27 => if j27 then (some false) else (((setup_Check x0.Needs x0.Stations l).bind fun r34 => if (r34 == 0) then (if (decide ((l.length : Int) < r12.1)) then (some true) else (if (r18.2 == 0) then (some (decide ((l.length : Int) < r18.1))) else (some false))) else (some false)).bind fun j33 => if j33 then (some false) else ((setup_Best [x0.Needs, []] x0.Stations).bind fun r36 => (if (r36.2.2 == 0) then (if (r36.2.1 == r12.1) then (some ((r36.1.length : Int) == 2)) else (some false)) else (some false)).bind fun j37 => some j37))))))
end Go.SM
