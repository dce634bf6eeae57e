/- Sums over ranges of integers, areas of sets of unit cells, grids. -/
set_option linter.unusedVariables false
set_option linter.unusedSimpArgs false
set_option linter.unusedSectionVars false
namespace Go.Cells
def sumN (f : Nat→Int) : Nat→Int
  | 0=>0
  | n+1=>sumN f n+f n
def S (a b : Int) (f : Int→Int) : Int:=sumN (fun k=>f (a+k)) (b - a).toNat
def GSteps {β : Type} (g : Int→β) : List Int→Prop
  | []=>True
  | [_]=>True
  | x::y::t=>x < y∧(∀ z,x≤z→z < y→g z=g x)∧GSteps g (y::t)
def one (b : Bool) : Int:=if b then 1 else 0
end Go.Cells
