/- The Go functions as plain functions; written by a program out of the translation. -/
import Derived.Test.YtiodkdpfkchkjaaGeMT
set_option linter.unusedVariables false
set_option linter.unusedSimpArgs false
set_option linter.unusedSectionVars false
namespace Go.SM
open Go Go.VI
noncomputable def geom_outside_l1 (a : Point) (b : Point) (l : (List Point)) : Int → Option (Int ⊕ (Unit ⊕ Unit)) := fun s39 =>
  if (decide (s39 < (l.length : Int))) then ((idx l s39).bind fun x53 => (geom_orient a b x53).bind fun r55 => if (decide (r55 > 0)) then (some (.inr (.inl ()))) else (some (.inl (iadd s39 1)))) else (some (.inr (.inr (()))))
noncomputable def geom_outside (a : Point) (b : Point) (l : (List Point)) : Option (Bool) :=
  (loopT (geom_outside_l1 a b l) 0).bind fun x56 => match x56 with | .inl j57 => some false | .inr j58 => some true
noncomputable def geom_apart_l1 (a : (List Point)) (b : (List Point)) : Int → Option (Int ⊕ (Unit ⊕ Unit)) := fun s103 =>
  if (decide (s103 < (a.length : Int))) then (if ((a.length : Int) != 0) then ((idx a (Int.tmod (iadd s103 1) (a.length : Int))).bind fun x141 => ((idx a s103).bind fun x149 => if ((x141.X.A == x149.X.A) && ((x141.X.B == x149.X.B) && ((x141.Y.A == x149.Y.A) && ((x141.Y.B == x149.Y.B) && true)))) then (some false) else ((idx a s103).bind fun x150 => (geom_outside x150 x141 b).bind fun r151 => some r151)).bind fun j148 => if j148 then (some (.inr (.inl ()))) else (some (.inl (iadd s103 1)))) else none) else (some (.inr (.inr (()))))
noncomputable def geom_apart (a : (List Point)) (b : (List Point)) : Option (Bool) :=
  (loopT (geom_apart_l1 a b) 0).bind fun x152 => match x152 with | .inl j153 => some true | .inr j154 => some false
noncomputable def geom_Meets (a : (List Point)) (b : (List Point)) : Option (Bool × Int) :=
  (geom_points a).bind fun r3 => (geom_points b).bind fun r4 => (if (r3 == 1) then (some true) else (some (r4 == 1))).bind fun j7 => if j7 then (some (false, 1)) else ((if (r3 != 0) then (some true) else (some (r4 != 0))).bind fun j8 => if j8 then (some (false, 4)) else ((geom_hull a).bind fun r11 => (geom_hull b).bind fun r12 => if (decide ((r12.length : Int) < 3)) then (some (false, 6)) else (((geom_apart r12 r11).bind fun r16 => if r16 then (some false) else ((geom_apart r11 r12).bind fun r17 => some (!r17))).bind fun j15 => some (j15, 0))))
noncomputable def sheetmetalref01_meets_l1 (r3 : (List Point)) (r4 : (List Point)) (s1041 : Int × (List Point)) : Int × (List Point) → Option (Int × (List Point) ⊕ (List Point)) := fun s1472 =>
  if (decide (s1472.1 < (r4.length : Int))) then ((idx r3 s1041.1).bind fun x1550 => (idx r4 s1472.1).bind fun x1551 => (sheetmetalref01_minus x1550.X x1551.X).bind fun r1552 => (idx r3 s1041.1).bind fun x1553 => (idx r4 s1472.1).bind fun x1554 => (sheetmetalref01_minus x1553.Y x1554.Y).bind fun r1555 => (app s1472.2 [(Point.mk r1552 r1555)]).bind fun l1556 => some (.inl ((iadd s1472.1 1), l1556))) else (some (.inr s1472.2))
noncomputable def sheetmetalref01_meets_l2 (r3 : (List Point)) (r4 : (List Point)) : Int × (List Point) → Option (Int × (List Point) ⊕ (List Point)) := fun s1041 =>
  if (decide (s1041.1 < (r3.length : Int))) then ((loopT (sheetmetalref01_meets_l1 r3 r4 s1041) (0, s1041.2)).bind fun x1557 => some (.inl ((iadd s1041.1 1), x1557))) else (some (.inr s1041.2))
noncomputable def sheetmetalref01_meets_l3 (r1560 : (List Point)) : Int → Option (Int ⊕ (Unit ⊕ Unit)) := fun s1639 =>
  if (decide (s1639 < (r1560.length : Int))) then ((idx r1560 s1639).bind fun x1673 => if ((r1560.length : Int) != 0) then ((idx r1560 (Int.tmod (iadd s1639 1) (r1560.length : Int))).bind fun x1674 => (sheetmetalref01_orient x1673 x1674 (Point.mk (Root.mk 0 0) (Root.mk 0 0))).bind fun r1675 => if (decide (r1675 ≤ 0)) then (some (.inr (.inl ()))) else (some (.inl (iadd s1639 1)))) else none) else (some (.inr (.inr (()))))
noncomputable def sheetmetalref01_meets (a : (List Point)) (b : (List Point)) : Option (Bool) :=
  (sheetmetalref01_Wrap a).bind fun r3 => (sheetmetalref01_Wrap b).bind fun r4 => (loopT (sheetmetalref01_meets_l2 r3 r4) (0, [])).bind fun x1558 => (sheetmetalref01_Wrap x1558).bind fun r1560 => (loopT (sheetmetalref01_meets_l3 r1560) 0).bind fun x1676 => match x1676 with | .inl j1677 => some false | .inr j1678 => some true
noncomputable def sheetmetalref01_Meets (a : (List Point)) (b : (List Point)) : Option (Bool × Int) :=
  ((sheetmetalref01_pointsIn a).bind fun r9 => if (r9 != 0) then (some true) else ((sheetmetalref01_pointsIn b).bind fun r10 => some (r10 != 0))).bind fun j8 => if j8 then (some (false, 1)) else (((sheetmetalref01_allSmall a).bind fun r19 => if r19 then ((sheetmetalref01_allSmall b).bind fun r20 => some (!r20)) else (some true)).bind fun j18 => if j18 then (some (false, 4)) else ((sheetmetalref01_Wrap b).bind fun r24 => if (decide ((r24.length : Int) < 3)) then (some (false, 6)) else ((sheetmetalref01_meets a b).bind fun r26 => some (r26, 0))))
noncomputable def sheetmetallaw01_GeomMeets (a : (List Point)) (b : (List Point)) : Option (Bool) :=
  ((sheetmetallaw01_long a).bind fun r11 => if r11 then (some true) else ((sheetmetallaw01_long b).bind fun r12 => some r12)).bind fun j10 => if j10 then ((sheetmetallaw01_known).bind fun r14 => some r14) else ((geom_Meets a b).bind fun r16 => (sheetmetalref01_Meets a b).bind fun r18 => (if (r16.1 == r18.1) then (if (r16.2 == r18.2) then ((sheetmetallaw01_known).bind fun r21 => some r21) else (some false)) else (some false)).bind fun j20 => some j20)
end Go.SM
