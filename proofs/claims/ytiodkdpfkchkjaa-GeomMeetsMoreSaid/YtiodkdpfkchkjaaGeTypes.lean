/- The Go types and the Go functions as plain types and functions; written by a program out of the translation. -/
import Derived.Test.YtiodkdpfkchkjaaVHC3
import Derived.Test.YtiodkdpfkchkjaaVHC4
set_option linter.unusedVariables false
set_option linter.unusedSimpArgs false
set_option linter.unusedSectionVars false
namespace Go.SM
open Go Go.VI
structure Root where
  A : Int
  B : Int
def c_Root (x : Root) : List PV := [(vI x.A), (vI x.B)]
structure Spot where
  X : Int
  Y : Int
def c_Spot (x : Spot) : List PV := [(vI x.X), (vI x.Y)]
structure Point where
  X : Root
  Y : Root
def c_Point (x : Point) : List PV := [(vI x.X.A), (vI x.X.B), (vI x.Y.A), (vI x.Y.B)]
structure Rect where
  X : Int
  Y : Int
  W : Int
  H : Int
def c_Rect (x : Rect) : List PV := [(vI x.X), (vI x.Y), (vI x.W), (vI x.H)]
structure geom_grid where
  x : (List Int)
  y : (List Int)
structure sheetmetalref01_Grid where
  X : (List Int)
  Y : (List Int)
  On : (List (List Bool))
structure Segment where
  X1 : Int
  Y1 : Int
  X2 : Int
  Y2 : Int
def c_Segment (x : Segment) : List PV := [(vI x.X1), (vI x.Y1), (vI x.X2), (vI x.Y2)]
def R_Root (x : Root) : Prop := R64 x.A ∧ R64 x.B
def R_Spot (x : Spot) : Prop := R64 x.X ∧ R64 x.Y
def R_Point (x : Point) : Prop := R_Root x.X ∧ R_Root x.Y
def R_Rect (x : Rect) : Prop := R64 x.X ∧ R64 x.Y ∧ R64 x.W ∧ R64 x.H
end Go.SM
