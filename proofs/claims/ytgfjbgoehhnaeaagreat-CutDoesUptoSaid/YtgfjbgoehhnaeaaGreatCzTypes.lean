/- The Go types and the Go functions as plain types and functions; written by a program out of the translation. -/
import Derived.Test.YtgfjbgoehhnaeaaGreatVHC3
import Derived.Test.YtgfjbgoehhnaeaaGreatVHC4
import Derived.Lib.IndexMore
set_option linter.unusedVariables false
set_option linter.unusedSimpArgs false
set_option linter.unusedSectionVars false
namespace Go.SM
open Go Go.VI
structure Rect where
  X:Int
  Y:Int
  W:Int
  H:Int
def aB (x:Rect):List PV:=[(vI x.X),(vI x.Y),(vI x.W),(vI x.H)]
abbrev aW (l:List Rect):PV:=.sl (List.map aB l)
abbrev jZ (e:Nat) (l:List Rect):HO:=.row e [] (List.map aB l)
structure Sheet where
  Name:ByteArray
  Material:ByteArray
  Gauge:Int
  Grain:Int
  Width:Int
  Height:Int
  Clamps:(List Rect)
  Used:(List Rect)
def oH (x:Sheet):List PV:=[(vS x.Name),(vS x.Material),(vI x.Gauge),(vI x.Grain),(vI x.Width),(vI x.Height),(.sl (List.map aB x.Clamps)),(.sl (List.map aB x.Used))]
structure Piece where
  Name:ByteArray
  Material:ByteArray
  Gauge:Int
  Grain:Int
  Rects:(List Rect)
  Cuts:(List Rect)
  Forms:(List Rect)
def aU (x:Piece):List PV:=[(vS x.Name),(vS x.Material),(vI x.Gauge),(vI x.Grain),(.sl (List.map aB x.Rects)),(.sl (List.map aB x.Cuts)),(.sl (List.map aB x.Forms))]
abbrev cZ (l:List Piece):PV:=.sl (List.map aU l)
structure LayoutT where
  Sheet:Sheet
  Pieces:(List Piece)
def aR (x:LayoutT):List PV:=[(vS x.Sheet.Name),(vS x.Sheet.Material),(vI x.Sheet.Gauge),(vI x.Sheet.Grain),(vI x.Sheet.Width),(vI x.Sheet.Height),(.sl (List.map aB x.Sheet.Clamps)),(.sl (List.map aB x.Sheet.Used)),(.sl (List.map aU x.Pieces))]
structure Segment where
  X1:Int
  Y1:Int
  X2:Int
  Y2:Int
def Bc (x:Segment):List PV:=[(vI x.X1),(vI x.Y1),(vI x.X2),(vI x.Y2)]
structure EdgeT where
  Line:Segment
  A:Int
  B:Int
def bF (x:EdgeT):List PV:=[(vI x.Line.X1),(vI x.Line.Y1),(vI x.Line.X2),(vI x.Line.Y2),(vI x.A),(vI x.B)]
abbrev bB (l:List EdgeT):PV:=.sl (List.map bF l)
abbrev iA (e:Nat) (l:List EdgeT):HO:=.row e [] (List.map bF l)
structure cut_nothing where
structure Spot where
  X:Int
  Y:Int
def C9 (x:Spot):List PV:=[(vI x.X),(vI x.Y)]
structure ItemT where
  Piece:Int
  Hole:Int
  Joints:Int
  Lead:Spot
def dO (x:ItemT):List PV:=[(vI x.Piece),(vI x.Hole),(vI x.Joints),(vI x.Lead.X),(vI x.Lead.Y)]
abbrev YN (l:List ItemT):PV:=.sl (List.map dO l)
structure cut_State where
  Cut:(List Bool)
  Holes:(List (List Bool))
  Done:(List Bool)
  Joints:(List Int)
  Fallen:(List Bool)
def bG (x:cut_State):List PV:=[(.sl (List.map cB x.Cut)),(.sl (List.map (cS cB) x.Holes)),(.sl (List.map cB x.Done)),(.sl (List.map cI x.Joints)),(.sl (List.map cB x.Fallen))]
structure sheetmetalref06_Line where
  At:Segment
  Low:Int
  High:Int
def aK (x:sheetmetalref06_Line):List PV:=[(vI x.At.X1),(vI x.At.Y1),(vI x.At.X2),(vI x.At.Y2),(vI x.Low),(vI x.High)]
abbrev aX (e:Nat) (l:List sheetmetalref06_Line):HO:=.row e [] (List.map aK l)
structure sheetmetalref07_State where
  Cut:(List Bool)
  Holes:(List (List Bool))
  Done:(List Bool)
  Joints:(List Int)
  Fallen:(List Bool)
def aD (x:sheetmetalref07_State):List PV:=[(.sl (List.map cB x.Cut)),(.sl (List.map (cS cB) x.Holes)),(.sl (List.map cB x.Done)),(.sl (List.map cI x.Joints)),(.sl (List.map cB x.Fallen))]
def Za (x:Rect):Prop:=R64 x.X∧R64 x.Y∧R64 x.W∧R64 x.H
def Nj (x:Rect):Prop:=R64 x.X∧R64 x.Y∧R64 x.W∧R64 x.H
def GN (x:Sheet):Prop:=RT x.Name∧RT x.Material∧R64 x.Gauge∧R64 x.Grain∧R64 x.Width∧R64 x.Height∧(RLN 1048576 Nj) x.Clamps∧(RLN 1048576 Nj) x.Used
def Yz (x:Piece):Prop:=RT x.Name∧RT x.Material∧R64 x.Gauge∧R64 x.Grain∧(RLN 1048576 Nj) x.Rects∧(RLN 1048576 Nj) x.Cuts∧(RLN 1048576 Nj) x.Forms
def Az (x:LayoutT):Prop:=GN x.Sheet∧(RLN 1048576 Yz) x.Pieces
def MX (x:Spot):Prop:=R64 x.X∧R64 x.Y
def GM (x:ItemT):Prop:=R64 x.Piece∧R64 x.Hole∧R64 x.Joints∧MX x.Lead
def tJ (x:sheetmetalref07_State):Prop:=(RLN 1048576 RT) x.Cut∧(RLN 1048576 (RLN 1048576 RT)) x.Holes∧(RLN 1048576 RT) x.Done∧(RLN 1048576 R64) x.Joints∧(RLN 1048576 RT) x.Fallen
end Go.SM
