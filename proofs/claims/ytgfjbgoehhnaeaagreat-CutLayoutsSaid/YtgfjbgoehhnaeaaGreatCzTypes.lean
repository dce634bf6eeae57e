/- The Go types and the Go functions as plain types and functions; written by a program out of the translation. -/
import Derived.Test.YtgfjbgoehhnaeaaGreatVHC3
import Derived.Test.YtgfjbgoehhnaeaaGreatVHC4
import Derived.Lib.IndexMore
set_option linter.unusedVariables false
set_option linter.unusedSimpArgs false
set_option linter.unusedSectionVars false
namespace Go.SM
open Go Go.VI
structure Rect where
  X : Int
  Y : Int
  W : Int
  H : Int
def c_Rect (x : Rect) : List PV:=[(vI x.X),(vI x.Y),(vI x.W),(vI x.H)]
abbrev s_Rect (l : List Rect) : PV:=.sl (List.map c_Rect l)
abbrev w_Rect (e : Nat) (l : List Rect) : HO:=.row e [] (List.map c_Rect l)
structure Sheet where
  Name : ByteArray
  Material : ByteArray
  Gauge : Int
  Grain : Int
  Width : Int
  Height : Int
  Clamps : (List Rect)
  Used : (List Rect)
def c_Sheet (x : Sheet) : List PV:=[(vS x.Name),(vS x.Material),(vI x.Gauge),(vI x.Grain),(vI x.Width),(vI x.Height),(.sl (List.map c_Rect x.Clamps)),(.sl (List.map c_Rect x.Used))]
abbrev s_Sheet (l : List Sheet) : PV:=.sl (List.map c_Sheet l)
structure Piece where
  Name : ByteArray
  Material : ByteArray
  Gauge : Int
  Grain : Int
  Rects : (List Rect)
  Cuts : (List Rect)
  Forms : (List Rect)
def c_Piece (x : Piece) : List PV:=[(vS x.Name),(vS x.Material),(vI x.Gauge),(vI x.Grain),(.sl (List.map c_Rect x.Rects)),(.sl (List.map c_Rect x.Cuts)),(.sl (List.map c_Rect x.Forms))]
abbrev s_Piece (l : List Piece) : PV:=.sl (List.map c_Piece l)
abbrev w_Piece (e : Nat) (l : List Piece) : HO:=.row e [] (List.map c_Piece l)
structure LayoutT where
  Sheet : Sheet
  Pieces : (List Piece)
def c_LayoutT (x : LayoutT) : List PV:=[(vS x.Sheet.Name),(vS x.Sheet.Material),(vI x.Sheet.Gauge),(vI x.Sheet.Grain),(vI x.Sheet.Width),(vI x.Sheet.Height),(.sl (List.map c_Rect x.Sheet.Clamps)),(.sl (List.map c_Rect x.Sheet.Used)),(.sl (List.map c_Piece x.Pieces))]
structure Segment where
  X1 : Int
  Y1 : Int
  X2 : Int
  Y2 : Int
def c_Segment (x : Segment) : List PV:=[(vI x.X1),(vI x.Y1),(vI x.X2),(vI x.Y2)]
structure EdgeT where
  Line : Segment
  A : Int
  B : Int
def c_EdgeT (x : EdgeT) : List PV:=[(vI x.Line.X1),(vI x.Line.Y1),(vI x.Line.X2),(vI x.Line.Y2),(vI x.A),(vI x.B)]
abbrev s_EdgeT (l : List EdgeT) : PV:=.sl (List.map c_EdgeT l)
abbrev w_EdgeT (e : Nat) (l : List EdgeT) : HO:=.row e [] (List.map c_EdgeT l)
structure cut_nothing where
structure Spot where
  X : Int
  Y : Int
structure ItemT where
  Piece : Int
  Hole : Int
  Joints : Int
  Lead : Spot
def c_ItemT (x : ItemT) : List PV:=[(vI x.Piece),(vI x.Hole),(vI x.Joints),(vI x.Lead.X),(vI x.Lead.Y)]
abbrev s_ItemT (l : List ItemT) : PV:=.sl (List.map c_ItemT l)
structure cut_State where
  Cut : (List Bool)
  Holes : (List (List Bool))
  Done : (List Bool)
  Joints : (List Int)
  Fallen : (List Bool)
def c_cut_State (x : cut_State) : List PV:=[(.sl (List.map cB x.Cut)),(.sl (List.map (cS cB) x.Holes)),(.sl (List.map cB x.Done)),(.sl (List.map cI x.Joints)),(.sl (List.map cB x.Fallen))]
structure Settings where
  Gap : Int
  Margin : Int
  Common : Bool
def c_Settings (x : Settings) : List PV:=[(vI x.Gap),(vI x.Margin),(vB x.Common)]
structure sheetmetallaw06_Job where
  Sheets : (List Sheet)
  Pieces : (List Piece)
  Set : Settings
def c_sheetmetallaw06_Job (x : sheetmetallaw06_Job) : List PV:=[(.sl (List.map c_Sheet x.Sheets)),(.sl (List.map c_Piece x.Pieces)),(vI x.Set.Gap),(vI x.Set.Margin),(vB x.Set.Common)]
structure Placement where
  Piece : Int
  Sheet : Int
  X : Int
  Y : Int
  Turn : Int
def c_Placement (x : Placement) : List PV:=[(vI x.Piece),(vI x.Sheet),(vI x.X),(vI x.Y),(vI x.Turn)]
abbrev s_Placement (l : List Placement) : PV:=.sl (List.map c_Placement l)
structure sheetmetallaw07_Placed where
  L : (List Placement)
  Sheet : Int
def c_sheetmetallaw07_Placed (x : sheetmetallaw07_Placed) : List PV:=[(.sl (List.map c_Placement x.L)),(vI x.Sheet)]
structure BendLine where
  Flange : Int
  Parent : Int
  Line : Segment
  Angle : Int
  Deduct : Int
def c_BendLine (x : BendLine) : List PV:=[(vI x.Flange),(vI x.Parent),(vI x.Line.X1),(vI x.Line.Y1),(vI x.Line.X2),(vI x.Line.Y2),(vI x.Angle),(vI x.Deduct)]
abbrev s_BendLine (l : List BendLine) : PV:=.sl (List.map c_BendLine l)
abbrev w_BendLine (e : Nat) (l : List BendLine) : HO:=.row e [] (List.map c_BendLine l)
structure Flat where
  Rects : (List Rect)
  Cuts : (List Rect)
  Forms : (List Rect)
  Bends : (List BendLine)
def c_Flat (x : Flat) : List PV:=[(.sl (List.map c_Rect x.Rects)),(.sl (List.map c_Rect x.Cuts)),(.sl (List.map c_Rect x.Forms)),(.sl (List.map c_BendLine x.Bends))]
def R_Rect (x : Rect) : Prop:=R64 x.X∧R64 x.Y∧R64 x.W∧R64 x.H
def R_Sheet (x : Sheet) : Prop:=RT x.Name∧RT x.Material∧R64 x.Gauge∧R64 x.Grain∧R64 x.Width∧R64 x.Height∧(RL R_Rect) x.Clamps∧(RL R_Rect) x.Used
def R_Piece (x : Piece) : Prop:=RT x.Name∧RT x.Material∧R64 x.Gauge∧R64 x.Grain∧(RL R_Rect) x.Rects∧(RL R_Rect) x.Cuts∧(RL R_Rect) x.Forms
def R_Settings (x : Settings) : Prop:=R64 x.Gap∧R64 x.Margin∧RT x.Common
def R_sheetmetallaw06_Job (x : sheetmetallaw06_Job) : Prop:=(RL R_Sheet) x.Sheets∧(RL R_Piece) x.Pieces∧R_Settings x.Set
def R_Placement (x : Placement) : Prop:=R64 x.Piece∧R64 x.Sheet∧R64 x.X∧R64 x.Y∧R64 x.Turn
def R_sheetmetallaw07_Placed (x : sheetmetallaw07_Placed) : Prop:=(RL R_Placement) x.L∧R64 x.Sheet
end Go.SM
