/- The Go types and the Go functions as plain types and functions; written by a program out of the translation. -/
import Derived.Test.YtppmnjiibmomoaaVHC3
import Derived.Test.YtppmnjiibmomoaaVHC4
set_option linter.unusedVariables false
set_option linter.unusedSimpArgs false
set_option linter.unusedSectionVars false
namespace Go.SM
open Go Go.VI
structure setup_stage where
  changes : (List (Int × Int))
  before : (List (Int × Int))
def c_setup_stage (x : setup_stage) : List PV := [(.fmap x.changes), (.fmap x.before)]
structure Window where
  From : Int
  To : Int
def c_Window (x : Window) : List PV := [(vI x.From), (vI x.To)]
structure sheetmetallaw05_Rig where
  Needs : (List (List Int))
  Stations : Int
def c_sheetmetallaw05_Rig (x : sheetmetallaw05_Rig) : List PV := [(.sl (List.map (cS cI) x.Needs)), (vI x.Stations)]
structure Change where
  Step : Int
  Station : Int
  Pair : Int
def c_Change (x : Change) : List PV := [(vI x.Step), (vI x.Station), (vI x.Pair)]
def R_setup_stage (x : setup_stage) : Prop := RT x.changes ∧ RT x.before
def R_Window (x : Window) : Prop := R64 x.From ∧ R64 x.To
def R_sheetmetallaw05_Rig (x : sheetmetallaw05_Rig) : Prop := (RL (RL R64)) x.Needs ∧ R64 x.Stations
def R_Change (x : Change) : Prop := R64 x.Step ∧ R64 x.Station ∧ R64 x.Pair
end Go.SM
