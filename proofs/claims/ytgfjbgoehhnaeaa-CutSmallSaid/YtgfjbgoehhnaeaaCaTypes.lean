/- The Go types and the Go functions as plain types and functions; written by a program out of the translation. -/
import Derived.Test.YtgfjbgoehhnaeaaVHC3
import Derived.Test.YtgfjbgoehhnaeaaVHC4
import Derived.Lib.IndexMore
set_option linter.unusedVariables false
set_option linter.unusedSimpArgs false
set_option linter.unusedSectionVars false
namespace Go.SM
open Go Go.VI
structure Rect where
  X : Int
  Y : Int
  W : Int
  H : Int
def c_Rect (x : Rect) : List PV := [(vI x.X), (vI x.Y), (vI x.W), (vI x.H)]
structure Piece where
  Name : ByteArray
  Material : ByteArray
  Gauge : Int
  Grain : Int
  Rects : (List Rect)
  Cuts : (List Rect)
  Forms : (List Rect)
def c_Piece (x : Piece) : List PV := [(vS x.Name), (vS x.Material), (vI x.Gauge), (vI x.Grain), (.sl (List.map c_Rect x.Rects)), (.sl (List.map c_Rect x.Cuts)), (.sl (List.map c_Rect x.Forms))]
structure Spot where
  X : Int
  Y : Int
def c_Spot (x : Spot) : List PV := [(vI x.X), (vI x.Y)]
structure Sheet where
  Name : ByteArray
  Material : ByteArray
  Gauge : Int
  Grain : Int
  Width : Int
  Height : Int
  Clamps : (List Rect)
  Used : (List Rect)
structure LayoutT where
  Sheet : Sheet
  Pieces : (List Piece)
structure Segment where
  X1 : Int
  Y1 : Int
  X2 : Int
  Y2 : Int
structure EdgeT where
  Line : Segment
  A : Int
  B : Int
def c_EdgeT (x : EdgeT) : List PV := [(vI x.Line.X1), (vI x.Line.Y1), (vI x.Line.X2), (vI x.Line.Y2), (vI x.A), (vI x.B)]
structure cut_nothing where

structure ItemT where
  Piece : Int
  Hole : Int
  Joints : Int
  Lead : Spot
def c_ItemT (x : ItemT) : List PV := [(vI x.Piece), (vI x.Hole), (vI x.Joints), (vI x.Lead.X), (vI x.Lead.Y)]
structure cut_State where
  Cut : (List Bool)
  Holes : (List (List Bool))
  Done : (List Bool)
  Joints : (List Int)
  Fallen : (List Bool)
def R_Rect (x : Rect) : Prop := R64 x.X ∧ R64 x.Y ∧ R64 x.W ∧ R64 x.H
def R_Piece (x : Piece) : Prop := RT x.Name ∧ RT x.Material ∧ R64 x.Gauge ∧ R64 x.Grain ∧ (RL R_Rect) x.Rects ∧ (RL R_Rect) x.Cuts ∧ (RL R_Rect) x.Forms
def R_Spot (x : Spot) : Prop := R64 x.X ∧ R64 x.Y
end Go.SM
