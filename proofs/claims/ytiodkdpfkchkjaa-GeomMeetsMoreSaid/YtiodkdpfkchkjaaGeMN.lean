/- The Go functions as plain functions; written by a program out of the translation. -/
import Derived.Test.YtiodkdpfkchkjaaGeMM
set_option linter.unusedVariables false
set_option linter.unusedSimpArgs false
set_option linter.unusedSectionVars false
namespace Go.SM
open Go Go.VI
noncomputable def sheetmetallaw01_GeomMeetsMore (a : (List Point)) (b : (List Point)) (p : Point) : Option (Bool) :=
  ((sheetmetallaw01_long a).bind fun r11 => if r11 then (some true) else ((sheetmetallaw01_long b).bind fun r12 => some r12)).bind fun j10 => if j10 then ((sheetmetallaw01_known).bind fun r14 => some r14) else ((geom_Meets a b).bind fun r16 => if (r16.2 != 0) then ((if r16.1 then (some false) else ((sheetmetallaw01_known).bind fun r22 => some r22)).bind fun j21 => some j21) else ((geom_Hull a).bind fun r24 => (geom_Meets r24.1 b).bind fun r26 => (if (r24.2 != 0) then (some true) else (if (r26.2 != 0) then (some true) else (some (!(r16.1 == r26.1))))).bind fun j28 => if j28 then (some false) else ((geom_Meets b a).bind fun r33 => (if (r33.2 == 0) then (some (!(r33.1 == r16.1))) else (some false)).bind fun j34 => if j34 then (some false) else ((sheetmetalref01_CopyPoints a).bind fun r41 => (app r41 [p]).bind fun l42 => (geom_Meets l42 b).bind fun r43 => (if (r43.2 == 0) then (if r16.1 then (some (!r43.1)) else (some false)) else (some false)).bind fun j45 => if j45 then (some false) else ((geom_Meets [p] b).bind fun r47 => (if (r47.2 != 0) then ((sheetmetallaw01_known).bind fun r53 => some r53) else (if r47.1 then (if r43.1 then ((sheetmetallaw01_known).bind fun r54 => some r54) else (if (decide ((a.length : Int) ≥ 24)) then ((sheetmetallaw01_known).bind fun r55 => some r55) else (some false))) else ((sheetmetallaw01_known).bind fun r56 => some r56))).bind fun j52 => some j52)))))
end Go.SM
