/- The Go functions as plain functions; written by a program out of the translation. -/
import Derived.Test.YtonmponhpfpokaaGreatRNeMA
set_option linter.unusedVariables false
set_option linter.unusedSimpArgs false
set_option linter.unusedSectionVars false
namespace Go.SM
open Go Go.VI
noncomputable def geom_within (n : Int) (most : Int) : Option (Bool):=
  (if (decide ((ineg most) ≤ n)) then (some (decide (n ≤ most))) else (some false)).bind fun j1=>some j1
noncomputable def geom_ValidRect_1 (x0 : Int) (w : Int) : Option (Bool):=
  ((geom_within x0 1048576).bind fun r3=>if r3 then (if (decide (w > 0)) then (if (decide (w ≤ 2097152)) then (some (decide ((iadd x0 w) ≤ 1048576))) else (some false)) else (some false)) else (some false)).bind fun j2=>some j2
noncomputable def geom_ValidRect (r0 : Rect) : Option (Bool):=
  ((geom_ValidRect_1 r0.X r0.W).bind fun r4=>if r4 then ((geom_ValidRect_1 r0.Y r0.H).bind fun r5=>some r5) else (some false)).bind fun j3=>some j3
noncomputable def geom_Distance (a : Rect) (b : Rect) : Option (Int):=
  ((geom_ValidRect a).bind fun r9=>if r9 then ((geom_ValidRect b).bind fun r10=>some (!r10)) else (some true)).bind fun j8=>if j8 then (some 0) else (some (imax (imax (imax (imax 0 (isub (isub b.X a.X) a.W)) (isub (isub a.X b.X) b.W)) (isub (isub b.Y a.Y) a.H)) (isub (isub a.Y b.Y) b.H)))
noncomputable def geom_Overlap (a : Rect) (b : Rect) : Option (Bool):=
  ((geom_ValidRect a).bind fun r4=>if r4 then ((geom_ValidRect b).bind fun r5=>if r5 then (if (decide (a.X < (iadd b.X b.W))) then (if (decide (b.X < (iadd a.X a.W))) then (if (decide (a.Y < (iadd b.Y b.H))) then (some (decide (b.Y < (iadd a.Y a.H)))) else (some false)) else (some false)) else (some false)) else (some false)) else (some false)).bind fun j3=>some j3
noncomputable def sheetmetalref06_near (n : Int) : Option (Bool):=
  (if (decide (n ≥ (-1048576))) then (some (decide (n ≤ 1048576))) else (some false)).bind fun j1=>some j1
noncomputable def sheetmetalref06_Right (r0 : Rect) : Option (Bool):=
  ((sheetmetalref06_near r0.X).bind fun r9=>if r9 then ((sheetmetalref06_near r0.Y).bind fun r10=>if r10 then (if (decide (r0.W < 1)) then (some true) else (if (decide (r0.H < 1)) then (some true) else (if (decide (r0.W > 2097152)) then (some true) else (some (decide (r0.H > 2097152)))))) else (some true)) else (some true)).bind fun j8=>if j8 then (some false) else (((sheetmetalref06_near (iadd r0.X r0.W)).bind fun r14=>if r14 then ((sheetmetalref06_near (iadd r0.Y r0.H)).bind fun r15=>some r15) else (some false)).bind fun j13=>some j13)
noncomputable def sheetmetalref06_Apart (a : Rect) (b : Rect) : Option (Int):=
  ((sheetmetalref06_Right a).bind fun r9=>if r9 then ((sheetmetalref06_Right b).bind fun r10=>some (!r10)) else (some true)).bind fun j8=>if j8 then (some 0) else (some (imax (imax (imax 0 (isub (isub a.X b.X) b.W)) (isub (isub b.X a.X) a.W)) (imax (imax 0 (isub (isub a.Y b.Y) b.H)) (isub (isub b.Y a.Y) a.H))))
noncomputable def sheetmetalref06_Overlaps (a : Rect) (b : Rect) : Option (Bool):=
  ((sheetmetalref06_Right a).bind fun r4=>if r4 then ((sheetmetalref06_Right b).bind fun r5=>if r5 then (if (decide (a.X < (iadd b.X b.W))) then (if (decide (b.X < (iadd a.X a.W))) then (if (decide (a.Y < (iadd b.Y b.H))) then (some (decide (b.Y < (iadd a.Y a.H)))) else (some false)) else (some false)) else (some false)) else (some false)) else (some false)).bind fun j3=>some j3
end Go.SM
