/- The Go types and the Go functions as plain types and functions; written by a program out of the translation. -/
import Derived.Test.YtgfjbgoehhnaeaaGreatVHC3
import Derived.Test.YtgfjbgoehhnaeaaGreatVHC4
import Derived.Lib.IndexMore
set_option linter.unusedVariables false
set_option linter.unusedSimpArgs false
set_option linter.unusedSectionVars false
namespace Go.SM
open Go Go.VI
structure Rect where
  X : Int
  Y : Int
  W : Int
  H : Int
def c_Rect (x : Rect) : List PV:=[(vI x.X),(vI x.Y),(vI x.W),(vI x.H)]
abbrev s_Rect (l : List Rect) : PV:=.sl (List.map c_Rect l)
abbrev w_Rect (e : Nat) (l : List Rect) : HO:=.row e [] (List.map c_Rect l)
structure Sheet where
  Name : ByteArray
  Material : ByteArray
  Gauge : Int
  Grain : Int
  Width : Int
  Height : Int
  Clamps : (List Rect)
  Used : (List Rect)
def c_Sheet (x : Sheet) : List PV:=[(vS x.Name),(vS x.Material),(vI x.Gauge),(vI x.Grain),(vI x.Width),(vI x.Height),(.sl (List.map c_Rect x.Clamps)),(.sl (List.map c_Rect x.Used))]
structure Piece where
  Name : ByteArray
  Material : ByteArray
  Gauge : Int
  Grain : Int
  Rects : (List Rect)
  Cuts : (List Rect)
  Forms : (List Rect)
def c_Piece (x : Piece) : List PV:=[(vS x.Name),(vS x.Material),(vI x.Gauge),(vI x.Grain),(.sl (List.map c_Rect x.Rects)),(.sl (List.map c_Rect x.Cuts)),(.sl (List.map c_Rect x.Forms))]
abbrev s_Piece (l : List Piece) : PV:=.sl (List.map c_Piece l)
structure LayoutT where
  Sheet : Sheet
  Pieces : (List Piece)
def c_LayoutT (x : LayoutT) : List PV:=[(vS x.Sheet.Name),(vS x.Sheet.Material),(vI x.Sheet.Gauge),(vI x.Sheet.Grain),(vI x.Sheet.Width),(vI x.Sheet.Height),(.sl (List.map c_Rect x.Sheet.Clamps)),(.sl (List.map c_Rect x.Sheet.Used)),(.sl (List.map c_Piece x.Pieces))]
structure Segment where
  X1 : Int
  Y1 : Int
  X2 : Int
  Y2 : Int
def c_Segment (x : Segment) : List PV:=[(vI x.X1),(vI x.Y1),(vI x.X2),(vI x.Y2)]
structure EdgeT where
  Line : Segment
  A : Int
  B : Int
def c_EdgeT (x : EdgeT) : List PV:=[(vI x.Line.X1),(vI x.Line.Y1),(vI x.Line.X2),(vI x.Line.Y2),(vI x.A),(vI x.B)]
abbrev s_EdgeT (l : List EdgeT) : PV:=.sl (List.map c_EdgeT l)
abbrev w_EdgeT (e : Nat) (l : List EdgeT) : HO:=.row e [] (List.map c_EdgeT l)
structure cut_nothing where
structure Spot where
  X : Int
  Y : Int
structure ItemT where
  Piece : Int
  Hole : Int
  Joints : Int
  Lead : Spot
def c_ItemT (x : ItemT) : List PV:=[(vI x.Piece),(vI x.Hole),(vI x.Joints),(vI x.Lead.X),(vI x.Lead.Y)]
abbrev s_ItemT (l : List ItemT) : PV:=.sl (List.map c_ItemT l)
structure cut_State where
  Cut : (List Bool)
  Holes : (List (List Bool))
  Done : (List Bool)
  Joints : (List Int)
  Fallen : (List Bool)
def c_cut_State (x : cut_State) : List PV:=[(.sl (List.map cB x.Cut)),(.sl (List.map (cS cB) x.Holes)),(.sl (List.map cB x.Done)),(.sl (List.map cI x.Joints)),(.sl (List.map cB x.Fallen))]
structure sheetmetalref06_Line where
  At : Segment
  Low : Int
  High : Int
def c_sheetmetalref06_Line (x : sheetmetalref06_Line) : List PV:=[(vI x.At.X1),(vI x.At.Y1),(vI x.At.X2),(vI x.At.Y2),(vI x.Low),(vI x.High)]
abbrev w_sheetmetalref06_Line (e : Nat) (l : List sheetmetalref06_Line) : HO:=.row e [] (List.map c_sheetmetalref06_Line l)
def R_Rect (x : Rect) : Prop:=R64 x.X∧R64 x.Y∧R64 x.W∧R64 x.H
def RN_Rect (x : Rect) : Prop:=R64 x.X∧R64 x.Y∧R64 x.W∧R64 x.H
def RN_Sheet (x : Sheet) : Prop:=RT x.Name∧RT x.Material∧R64 x.Gauge∧R64 x.Grain∧R64 x.Width∧R64 x.Height∧(RLN 1048576 RN_Rect) x.Clamps∧(RLN 1048576 RN_Rect) x.Used
def RN_Piece (x : Piece) : Prop:=RT x.Name∧RT x.Material∧R64 x.Gauge∧R64 x.Grain∧(RLN 1048576 RN_Rect) x.Rects∧(RLN 1048576 RN_Rect) x.Cuts∧(RLN 1048576 RN_Rect) x.Forms
def RN_LayoutT (x : LayoutT) : Prop:=RN_Sheet x.Sheet∧(RLN 1048576 RN_Piece) x.Pieces
end Go.SM
