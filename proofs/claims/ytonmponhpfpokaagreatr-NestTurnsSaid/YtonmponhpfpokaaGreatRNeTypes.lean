/- The Go types and the Go functions as plain types and functions; written by a program out of the translation. -/
import Derived.Test.YtonmponhpfpokaaGreatRVHC3
import Derived.Test.YtonmponhpfpokaaGreatRVHC4
import Derived.Lib.IndexMore
set_option linter.unusedVariables false
set_option linter.unusedSimpArgs false
set_option linter.unusedSectionVars false
namespace Go.SM
open Go Go.VI
structure Rect where
  X : Int
  Y : Int
  W : Int
  H : Int
def c_Rect (x : Rect) : List PV:=[(vI x.X),(vI x.Y),(vI x.W),(vI x.H)]
abbrev s_Rect (l : List Rect) : PV:=.sl (List.map c_Rect l)
abbrev w_Rect (e : Nat) (l : List Rect) : HO:=.row e [] (List.map c_Rect l)
structure Piece where
  Name : ByteArray
  Material : ByteArray
  Gauge : Int
  Grain : Int
  Rects : (List Rect)
  Cuts : (List Rect)
  Forms : (List Rect)
def c_Piece (x : Piece) : List PV:=[(vS x.Name),(vS x.Material),(vI x.Gauge),(vI x.Grain),(.sl (List.map c_Rect x.Rects)),(.sl (List.map c_Rect x.Cuts)),(.sl (List.map c_Rect x.Forms))]
abbrev s_Piece (l : List Piece) : PV:=.sl (List.map c_Piece l)
structure Sheet where
  Name : ByteArray
  Material : ByteArray
  Gauge : Int
  Grain : Int
  Width : Int
  Height : Int
  Clamps : (List Rect)
  Used : (List Rect)
def c_Sheet (x : Sheet) : List PV:=[(vS x.Name),(vS x.Material),(vI x.Gauge),(vI x.Grain),(vI x.Width),(vI x.Height),(.sl (List.map c_Rect x.Clamps)),(.sl (List.map c_Rect x.Used))]
abbrev s_Sheet (l : List Sheet) : PV:=.sl (List.map c_Sheet l)
structure Settings where
  Gap : Int
  Margin : Int
  Common : Bool
def c_Settings (x : Settings) : List PV:=[(vI x.Gap),(vI x.Margin),(vB x.Common)]
structure Placement where
  Piece : Int
  Sheet : Int
  X : Int
  Y : Int
  Turn : Int
def c_Placement (x : Placement) : List PV:=[(vI x.Piece),(vI x.Sheet),(vI x.X),(vI x.Y),(vI x.Turn)]
abbrev s_Placement (l : List Placement) : PV:=.sl (List.map c_Placement l)
abbrev w_Placement (e : Nat) (l : List Placement) : HO:=.row e [] (List.map c_Placement l)
structure nest_obstacle where
  Rect : Rect
  gap : Int
  common : Bool
def c_nest_obstacle (x : nest_obstacle) : List PV:=[(vI x.Rect.X),(vI x.Rect.Y),(vI x.Rect.W),(vI x.Rect.H),(vI x.gap),(vB x.common)]
abbrev s_nest_obstacle (l : List nest_obstacle) : PV:=.sl (List.map c_nest_obstacle l)
abbrev w_nest_obstacle (e : Nat) (l : List nest_obstacle) : HO:=.row e [] (List.map c_nest_obstacle l)
structure Segment where
  X1 : Int
  Y1 : Int
  X2 : Int
  Y2 : Int
def c_Segment (x : Segment) : List PV:=[(vI x.X1),(vI x.Y1),(vI x.X2),(vI x.Y2)]
structure BendLine where
  Flange : Int
  Parent : Int
  Line : Segment
  Angle : Int
  Deduct : Int
def c_BendLine (x : BendLine) : List PV:=[(vI x.Flange),(vI x.Parent),(vI x.Line.X1),(vI x.Line.Y1),(vI x.Line.X2),(vI x.Line.Y2),(vI x.Angle),(vI x.Deduct)]
abbrev s_BendLine (l : List BendLine) : PV:=.sl (List.map c_BendLine l)
abbrev w_BendLine (e : Nat) (l : List BendLine) : HO:=.row e [] (List.map c_BendLine l)
structure Flat where
  Rects : (List Rect)
  Cuts : (List Rect)
  Forms : (List Rect)
  Bends : (List BendLine)
def c_Flat (x : Flat) : List PV:=[(.sl (List.map c_Rect x.Rects)),(.sl (List.map c_Rect x.Cuts)),(.sl (List.map c_Rect x.Forms)),(.sl (List.map c_BendLine x.Bends))]
structure nest_search where
  rects : (List Rect)
  obstacles : (List nest_obstacle)
  area : Rect
  w : Int
  h : Int
def c_nest_search (x : nest_search) : List PV:=[(.sl (List.map c_Rect x.rects)),(.sl (List.map c_nest_obstacle x.obstacles)),(vI x.area.X),(vI x.area.Y),(vI x.area.W),(vI x.area.H),(vI x.w),(vI x.h)]
structure nest_span where
  lo : Int
  hi : Int
def c_nest_span (x : nest_span) : List PV:=[(vI x.lo),(vI x.hi)]
abbrev s_nest_span (l : List nest_span) : PV:=.sl (List.map c_nest_span l)
abbrev w_nest_span (e : Nat) (l : List nest_span) : HO:=.row e [] (List.map c_nest_span l)
def R_Rect (x : Rect) : Prop:=R64 x.X ∧ R64 x.Y ∧ R64 x.W ∧ R64 x.H
def R_Piece (x : Piece) : Prop:=RT x.Name ∧ RT x.Material ∧ R64 x.Gauge ∧ R64 x.Grain ∧ (RL R_Rect) x.Rects ∧ (RL R_Rect) x.Cuts ∧ (RL R_Rect) x.Forms
end Go.SM
