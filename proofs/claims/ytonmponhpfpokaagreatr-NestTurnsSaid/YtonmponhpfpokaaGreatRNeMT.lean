/- The Go functions as plain functions; written by a program out of the translation. -/
import Derived.Test.YtonmponhpfpokaaGreatRNeMP
set_option linter.unusedVariables false
set_option linter.unusedSimpArgs false
set_option linter.unusedSectionVars false
namespace Go.SM
open Go Go.VI
noncomputable def sheetmetallaw06_NestTurns (x0 : Piece) (a : Int) (b : Int) : Option (Bool):=
  (nest_Put x0 (Placement.mk 0 0 0 0 a)).bind fun r2=>if (r2.2.1 != 0) then ((sheetmetallaw06_known_k).bind fun r6=>some r6) else ((nest_Put (Piece.mk r2.1.Name r2.1.Material r2.1.Gauge r2.1.Grain r2.1.Rects r2.1.Cuts r2.1.Forms) (Placement.mk 0 0 0 0 b)).bind fun r8=>(if (decide (b < 0)) then (some true) else (some (decide (b > 3)))).bind fun j13=>if j13 then ((if (r8.2.1 == 1) then ((sheetmetallaw06_known_k).bind fun r16=>some r16) else (some false)).bind fun j15=>some j15) else ((nest_Put x0 (Placement.mk 0 0 0 0 (Int.tmod (iadd a b) 4))).bind fun r18=>(if (r8.2.1 == 0) then (if (r18.2.1 == 0) then ((sheetmetalref06_SamePiece (Piece.mk r8.1.Name r8.1.Material r8.1.Gauge r8.1.Grain r8.1.Rects r8.1.Cuts r8.1.Forms) (Piece.mk r18.1.Name r18.1.Material r18.1.Gauge r18.1.Grain r18.1.Rects r18.1.Cuts r18.1.Forms)).bind fun r22=>if r22 then ((sheetmetallaw06_known_k).bind fun r23=>some r23) else (some false)) else (some false)) else (some false)).bind fun j21=>some j21))
end Go.SM
