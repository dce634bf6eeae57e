/- Areas of unions of rectangles, as numbers of unit cells. -/
import Derived.Test.YtgfjbgoehhnaeaaGreatCzClear
import Derived.Test.YtgfjbgoehhnaeaaGreatCells
set_option linter.unusedVariables false
set_option linter.unusedSimpArgs false
set_option linter.unusedSectionVars false
namespace Go.SM
open Go Go.VI Go.Cells
def inC (r:Rect) (x y:Int):Bool:=(decide (r.X≤x)&&decide (x<r.X+r.W))&&(decide (r.Y≤y)&&decide (y<r.Y+r.H))
def cov (l:List Rect) (x y:Int):Bool:=l.any fun r=>inC r x y
def CE (l:List Rect):Prop:=∀ r ∈ l,vR r
theorem XU {r:Rect} {x y:Int}:inC r x y=true↔r.X≤x∧x<r.X+r.W∧r.Y≤y∧y<r.Y+r.H:=by
  unfold inC;simp only [Bool.and_eq_true,decide_eq_true_eq];omega
end Go.SM
