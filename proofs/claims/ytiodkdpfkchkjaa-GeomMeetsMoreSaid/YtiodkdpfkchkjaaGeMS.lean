/- The Go functions as plain functions; written by a program out of the translation. -/
import Derived.Test.YtiodkdpfkchkjaaGeMI
set_option linter.unusedVariables false
set_option linter.unusedSimpArgs false
set_option linter.unusedSectionVars false
namespace Go.SM
open Go Go.VI
noncomputable def geom_Sweep_1_l1 (k : Int) (a_0 : (List Spot)) : Int × (List Point) → Option (Int × (List Point) ⊕ (List Point)) := fun s53 =>
  if (decide (s53.1 < (a_0.length : Int))) then ((idx a_0 s53.1).bind fun x73 => (geom_turned x73 k).bind fun r76 => (app s53.2 [(Point.mk (Root.mk r76.1.X.A r76.1.X.B) (Root.mk r76.1.Y.A r76.1.Y.B))]).bind fun l77 => some (.inl ((iadd s53.1 1), l77))) else (some (.inr s53.2))
noncomputable def geom_Sweep_1 (k : Int) (a_0 : (List Spot)) : Option ((List Point)) :=
  (loopT (geom_Sweep_1_l1 k a_0) (0, [])).bind fun x78 => some x78
noncomputable def geom_Sweep_l1 (l : (List Spot)) : Int → Option (Int ⊕ (Unit ⊕ Unit)) := fun s41 =>
  if (decide (s41 < (l.length : Int))) then ((idx l s41).bind fun x55 => (geom_near x55).bind fun r57 => if (!r57) then (some (.inr (.inl ()))) else (some (.inl (iadd s41 1)))) else (some (.inr (.inr (()))))
noncomputable def geom_Sweep_l2 (l : (List Spot)) (to2 : Int) : Int × (List (List Point)) → Option (Int × (List (List Point)) ⊕ (List (List Point))) := fun s153 =>
  if (decide (s153.1 < to2)) then ((geom_Sweep_1 s153.1 l).bind fun r189 => (geom_Sweep_1 (iadd s153.1 1) l).bind fun r190 => (app r189 r190).bind fun l191 => (geom_hull l191).bind fun r192 => (app s153.2 [r192]).bind fun l193 => some (.inl ((iadd s153.1 1), l193))) else (some (.inr s153.2))
noncomputable def geom_Sweep (l : (List Spot)) (from1 : Int) (to2 : Int) : Option ((List (List Point)) × Int) :=
  (if ((l.length : Int) == 0) then (some true) else (if (decide ((l.length : Int) > 12)) then (some true) else (if (decide (from1 < 0)) then (some true) else (if (decide (to2 > 6)) then (some true) else (some (decide (from1 > to2))))))).bind fun j2 => if j2 then (some ([], 1)) else ((loopT (geom_Sweep_l1 l) 0).bind fun x58 => match x58 with | .inl j59 => some ([], 1) | .inr j60 => if (from1 == to2) then ((geom_Sweep_1 from1 l).bind fun r67 => (geom_hull r67).bind fun r68 => some ([r68], 0)) else ((loopT (geom_Sweep_l2 l to2) (from1, [])).bind fun x194 => some (x194, 0)))
noncomputable def sheetmetalref01_Sweep_l1 (l : (List Spot)) : Int → Option (Int ⊕ (Unit ⊕ Unit)) := fun s41 =>
  if (decide (s41 < (l.length : Int))) then ((idx l s41).bind fun x56 => (sheetmetalref01_spotIn x56).bind fun r57 => if (!r57) then (some (.inr (.inl ()))) else (some (.inl (iadd s41 1)))) else (some (.inr (.inr (()))))
noncomputable def sheetmetalref01_Sweep_k2 (s1942 : Int × (List Point)) : (List Point) → Option (Int × (List Point) ⊕ (List Point)) := fun j1980 =>
  some (.inl ((iadd s1942.1 1), j1980))
noncomputable def sheetmetalref01_Sweep_l3 (l : (List Spot)) (from1 : Int) (to2 : Int) (s1353 : Int × (List (List Point))) : Int × (List Point) → Option (Int × (List Point) ⊕ (List Point)) := fun s1942 =>
  if (decide (s1942.1 < (l.length : Int))) then ((idx l s1942.1).bind fun x1984 => (sheetmetalref01_turned x1984 s1353.1).bind fun r1985 => (app s1942.2 [(Point.mk (Root.mk r1985.1.X.A r1985.1.X.B) (Root.mk r1985.1.Y.A r1985.1.Y.B))]).bind fun l1986 => if (decide (from1 < to2)) then ((idx l s1942.1).bind fun x1990 => (sheetmetalref01_turned x1990 (iadd s1353.1 1)).bind fun r1991 => (app l1986 [(Point.mk (Root.mk r1991.1.X.A r1991.1.X.B) (Root.mk r1991.1.Y.A r1991.1.Y.B))]).bind fun l1992 => sheetmetalref01_Sweep_k2 s1942 l1992) else (sheetmetalref01_Sweep_k2 s1942 l1986)) else (some (.inr s1942.2))
noncomputable def sheetmetalref01_Sweep_l4 (l : (List Spot)) (from1 : Int) (to2 : Int) : Int × (List (List Point)) → Option (Int × (List (List Point)) ⊕ (List (List Point))) := fun s1353 =>
  (if (decide (s1353.1 < to2)) then (some true) else (some (s1353.1 == from1))).bind fun j1677 => if j1677 then ((loopT (sheetmetalref01_Sweep_l3 l from1 to2 s1353) (0, [])).bind fun x1993 => (sheetmetalref01_Wrap x1993).bind fun r1996 => (app s1353.2 [r1996]).bind fun l1997 => some (.inl ((iadd s1353.1 1), l1997))) else (some (.inr s1353.2))
noncomputable def sheetmetalref01_Sweep (l : (List Spot)) (from1 : Int) (to2 : Int) : Option ((List (List Point)) × Int) :=
  (if ((l.length : Int) == 0) then (some true) else (if (decide ((l.length : Int) > 12)) then (some true) else (if (decide (from1 < 0)) then (some true) else (if (decide (to2 > 6)) then (some true) else (some (decide (from1 > to2))))))).bind fun j2 => if j2 then (some ([], 1)) else ((loopT (sheetmetalref01_Sweep_l1 l) 0).bind fun x58 => match x58 with | .inl j59 => some ([], 1) | .inr j60 => (loopT (sheetmetalref01_Sweep_l4 l from1 to2) (from1, [])).bind fun x1998 => some (x1998, 0))
noncomputable def sheetmetallaw01_GeomSweeps_l1 (r6 : (List (List Point)) × Int) (r8 : (List (List Point)) × Int) : Int → Option (Int ⊕ (Unit ⊕ Unit)) := fun s89 =>
  if (decide (s89 < (r6.1.length : Int))) then ((idx r6.1 s89).bind fun x123 => (idx r8.1 s89).bind fun x124 => (sheetmetalref01_SamePoints x123 x124).bind fun r125 => if (!r125) then (some (.inr (.inl ()))) else (some (.inl (iadd s89 1)))) else (some (.inr (.inr (()))))
noncomputable def sheetmetallaw01_GeomSweeps (l : (List Spot)) (from1 : Int) (to2 : Int) : Option (Bool) :=
  if (decide ((l.length : Int) > 40)) then ((sheetmetallaw01_known).bind fun r4 => some r4) else ((geom_Sweep l from1 to2).bind fun r6 => (sheetmetalref01_Sweep l from1 to2).bind fun r8 => (if (r6.2 != r8.2) then (some true) else (some ((r6.1.length : Int) != (r8.1.length : Int)))).bind fun j10 => if j10 then (some false) else ((loopT (sheetmetallaw01_GeomSweeps_l1 r6 r8) 0).bind fun x126 => match x126 with | .inl j127 => some false | .inr j128 => (sheetmetallaw01_known).bind fun r130 => some r130))
end Go.SM
