/- The Go functions as plain functions; written by a program out of the translation. -/
import Derived.Test.YtonmponhpfpokaaGreatRNeMA
set_option linter.unusedVariables false
set_option linter.unusedSimpArgs false
set_option linter.unusedSectionVars false
namespace Go.SM
open Go Go.VI
noncomputable def geom_within (n : Int) (most : Int) : Option (Bool):=
  (if (decide ((ineg most) ≤ n)) then (some (decide (n ≤ most))) else (some false)).bind fun j1=>some j1
noncomputable def geom_ValidRect_1 (x0 : Int) (w : Int) : Option (Bool):=
  ((geom_within x0 1048576).bind fun r3=>if r3 then (if (decide (w > 0)) then (if (decide (w ≤ 2097152)) then (some (decide ((iadd x0 w) ≤ 1048576))) else (some false)) else (some false)) else (some false)).bind fun j2=>some j2
noncomputable def geom_ValidRect (r0 : Rect) : Option (Bool):=
  ((geom_ValidRect_1 r0.X r0.W).bind fun r4=>if r4 then ((geom_ValidRect_1 r0.Y r0.H).bind fun r5=>some r5) else (some false)).bind fun j3=>some j3
noncomputable def geom_Distance (a : Rect) (b : Rect) : Option (Int):=
  ((geom_ValidRect a).bind fun r9=>if r9 then ((geom_ValidRect b).bind fun r10=>some (!r10)) else (some true)).bind fun j8=>if j8 then (some 0) else (some (imax (imax (imax (imax 0 (isub (isub b.X a.X) a.W)) (isub (isub a.X b.X) b.W)) (isub (isub b.Y a.Y) a.H)) (isub (isub a.Y b.Y) b.H)))
noncomputable def geom_Overlap (a : Rect) (b : Rect) : Option (Bool):=
  ((geom_ValidRect a).bind fun r4=>if r4 then ((geom_ValidRect b).bind fun r5=>if r5 then (if (decide (a.X < (iadd b.X b.W))) then (if (decide (b.X < (iadd a.X a.W))) then (if (decide (a.Y < (iadd b.Y b.H))) then (some (decide (b.Y < (iadd a.Y a.H)))) else (some false)) else (some false)) else (some false)) else (some false)) else (some false)).bind fun j3=>some j3
noncomputable def nest_Clear_l1 (b : (List Rect)) (set2 : Settings) (x548 : Rect) : (Int × Bool) → Option ((Int × Bool) ⊕ (Unit ⊕ Bool)):=fun s564 =>
  if (decide (s564.1 < (b.length : Int))) then ((idx b s564.1).bind fun x587=>(geom_Distance x548 x587).bind fun r589=>((geom_Overlap x548 x587).bind fun r592=>if r592 then (some (true,s564.2)) else (if (decide (r589 < set2.Gap)) then (if s564.2 then (some ((!(r589 == 0)),true)) else (some (true,false))) else (some (false,s564.2)))).bind fun j591=>if j591.1 then (some (.inr (.inl ()))) else (some (.inl ((iadd s564.1 1),j591.2)))) else (some (.inr (.inr s564.2)))
noncomputable def nest_Clear_l2 (a : (List Rect)) (b : (List Rect)) (set2 : Settings) : (Int × Bool) → Option ((Int × Bool) ⊕ (Unit ⊕ Unit)):=fun s399 =>
  if (decide (s399.1 < (a.length : Int))) then ((idx a s399.1).bind fun x548=>(loopT (nest_Clear_l1 b set2 x548) (0,s399.2)).bind fun x593=>match x593 with | .inl j594=>some (.inr (.inl ())) | .inr j595=>some (.inl ((iadd s399.1 1),j595))) else (some (.inr (.inr (()))))
noncomputable def nest_Clear (a : (List Rect)) (b : (List Rect)) (set2 : Settings) : Option (Bool):=
  (loopT (nest_Clear_l2 a b set2) (0,set2.Common)).bind fun x596=>match x596 with | .inl j597=>some false | .inr j598=>some true
noncomputable def sheetmetalref06_near (n : Int) : Option (Bool):=
  (if (decide (n ≥ (-1048576))) then (some (decide (n ≤ 1048576))) else (some false)).bind fun j1=>some j1
noncomputable def sheetmetalref06_Right (r0 : Rect) : Option (Bool):=
  ((sheetmetalref06_near r0.X).bind fun r9=>if r9 then ((sheetmetalref06_near r0.Y).bind fun r10=>if r10 then (if (decide (r0.W < 1)) then (some true) else (if (decide (r0.H < 1)) then (some true) else (if (decide (r0.W > 2097152)) then (some true) else (some (decide (r0.H > 2097152)))))) else (some true)) else (some true)).bind fun j8=>if j8 then (some false) else (((sheetmetalref06_near (iadd r0.X r0.W)).bind fun r14=>if r14 then ((sheetmetalref06_near (iadd r0.Y r0.H)).bind fun r15=>some r15) else (some false)).bind fun j13=>some j13)
noncomputable def sheetmetalref06_Apart (a : Rect) (b : Rect) : Option (Int):=
  ((sheetmetalref06_Right a).bind fun r9=>if r9 then ((sheetmetalref06_Right b).bind fun r10=>some (!r10)) else (some true)).bind fun j8=>if j8 then (some 0) else (some (imax (imax (imax 0 (isub (isub a.X b.X) b.W)) (isub (isub b.X a.X) a.W)) (imax (imax 0 (isub (isub a.Y b.Y) b.H)) (isub (isub b.Y a.Y) a.H))))
noncomputable def sheetmetalref06_Overlaps (a : Rect) (b : Rect) : Option (Bool):=
  ((sheetmetalref06_Right a).bind fun r4=>if r4 then ((sheetmetalref06_Right b).bind fun r5=>if r5 then (if (decide (a.X < (iadd b.X b.W))) then (if (decide (b.X < (iadd a.X a.W))) then (if (decide (a.Y < (iadd b.Y b.H))) then (some (decide (b.Y < (iadd a.Y a.H)))) else (some false)) else (some false)) else (some false)) else (some false)) else (some false)).bind fun j3=>some j3
noncomputable def sheetmetalref06_Clear_l1 (a : (List Rect)) (b : (List Rect)) (set2 : Settings) (s959 : Int × Bool) : (Int × Bool) → Option ((Int × Bool) ⊕ (Unit ⊕ Bool)):=fun s1356 =>
  if (decide (s1356.1 < (b.length : Int))) then ((idx a s959.1).bind fun x1420=>(idx b s1356.1).bind fun x1421=>(sheetmetalref06_Apart x1420 x1421).bind fun r1422=>((idx a s959.1).bind fun x1430=>(idx b s1356.1).bind fun x1431=>(sheetmetalref06_Overlaps x1430 x1431).bind fun r1432=>if r1432 then (some (true,s1356.2)) else (if (decide (r1422 < set2.Gap)) then (if s1356.2 then (some ((!(r1422 == 0)),true)) else (some (true,false))) else (some (false,s1356.2)))).bind fun j1429=>if j1429.1 then (some (.inr (.inl ()))) else (some (.inl ((iadd s1356.1 1),j1429.2)))) else (some (.inr (.inr s1356.2)))
noncomputable def sheetmetalref06_Clear_l2 (a : (List Rect)) (b : (List Rect)) (set2 : Settings) : (Int × Bool) → Option ((Int × Bool) ⊕ (Unit ⊕ Unit)):=fun s959 =>
  if (decide (s959.1 < (a.length : Int))) then ((loopT (sheetmetalref06_Clear_l1 a b set2 s959) (0,s959.2)).bind fun x1433=>match x1433 with | .inl j1434=>some (.inr (.inl ())) | .inr j1435=>some (.inl ((iadd s959.1 1),j1435))) else (some (.inr (.inr (()))))
noncomputable def sheetmetalref06_Clear (a : (List Rect)) (b : (List Rect)) (set2 : Settings) : Option (Bool):=
  (loopT (sheetmetalref06_Clear_l2 a b set2) (0,set2.Common)).bind fun x1436=>match x1436 with | .inl j1437=>some false | .inr j1438=>some true
end Go.SM
