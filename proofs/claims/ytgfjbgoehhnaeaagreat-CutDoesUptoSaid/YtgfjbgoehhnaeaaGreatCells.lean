/- Sums over ranges of integers, areas of sets of unit cells, grids. -/
set_option linter.unusedVariables false
set_option linter.unusedSimpArgs false
set_option linter.unusedSectionVars false
namespace Go.Cells
def I1 (f:Nat→Int):Nat→Int
  | 0=>0
  | n+1=>I1 f n+f n
def S (a b:Int) (f:Int→Int):Int:=I1 (fun k=>f (a+k)) (b-a).toNat
def Iu {β:Type} (g:Int→β):List Int→Prop
  | []=>True
  | [_]=>True
  | x::y::t=>x<y∧(∀ z,x≤z→z<y→g z=g x)∧Iu g (y::t)
def one (b:Bool):Int:=if b then 1 else 0
end Go.Cells
