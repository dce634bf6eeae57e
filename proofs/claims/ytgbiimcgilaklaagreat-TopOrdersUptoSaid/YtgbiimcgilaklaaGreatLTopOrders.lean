/- The law TopOrders, up to the bound: for every input of bulk at most 1048576 the call returns true, and each argument reads afterwards as before. -/
import Derived.Test.YtgbiimcgilaklaaGreatLTopOrdersA
import Derived.Test.YtgbiimcgilaklaaGreatRows
set_option linter.unusedVariables false
set_option linter.unusedSimpArgs false
set_option linter.unusedSectionVars false
namespace Go.Proofs.YtgbiimcgilaklaaGreat
open Go Go.VI Go.SM Go.Proofs Go.ChangeShapes Go.WideShapes Go.ChangeAt Go.RowKit
set_option maxRecDepth 100000
theorem jC {a b:Bool} (h:a=true) (g:b=true):(a&&b)=true:=by rw [h,g];rfl
set_option maxHeartbeats 0
theorem topOrders_holds:Rows.TopOrdersUptoSaid:=by
 refine OpenClaim.holds_of_cond 3 Tryz.f3 rfl rfl rfl rfl rfl rfl rfl ⟨rfl,rfl,rfl,rfl,rfl⟩ rfl rfl rfl rfl rfl (by kernel_rfl) Tryz.func3 ?_
  (of_decide_eq_true (by kernel_rfl)) (by unfold Func.isWrapper;first | (rw [if_pos (by decide +kernel)];kernel_rfl) | (rw [if_neg (by decide +kernel)];exact ⟨rfl,rfl⟩))
  (fun os started H enc _ F=>Tn os started H enc F)
 unfold joinedFacts
 refine jC ?_ ?_
 refine jC ?_ ?_
 refine jC ?_ ?_
 refine jC ?_ ?_
 refine jC ?_ ?_
 refine jC ?_ ?_
 refine jC ?_ ?_
 refine jC ?_ ?_
 refine jC ?_ ?_
 refine jC ?_ ?_
 refine jC ?_ ?_
 refine jC ?_ ?_
 refine jC ?_ ?_
 refine jC ?_ ?_
 refine jC ?_ ?_
 refine jC ?_ ?_
 refine jC ?_ ?_
 refine jC ?_ ?_
 refine jC ?_ ?_
 refine jC ?_ ?_
 refine jC ?_ ?_
 refine jC ?_ ?_
 refine jC ?_ ?_
 refine jC ?_ ?_
 refine jC ?_ ?_
 refine jC ?_ ?_
 refine jC ?_ ?_
 refine jC ?_ ?_
 refine jC ?_ ?_
 refine jC ?_ ?_
 refine jC ?_ ?_
 ·decide +kernel
 ·decide +kernel
 ·decide +kernel
 ·decide +kernel
 ·decide +kernel
 ·decide +kernel
 ·decide +kernel
 ·decide +kernel
 ·decide +kernel
 ·decide +kernel
 ·decide +kernel
 ·decide +kernel
 ·decide +kernel
 ·decide +kernel
 ·decide +kernel
 ·decide +kernel
 ·decide +kernel
 ·decide +kernel
 ·decide +kernel
 ·decide +kernel
 ·decide +kernel
 ·decide +kernel
 ·decide +kernel
 ·decide +kernel
 ·decide +kernel
 ·decide +kernel
 ·decide +kernel
 ·decide +kernel
 ·decide +kernel
 ·decide +kernel
 ·decide +kernel
 ·decide +kernel
end Go.Proofs.YtgbiimcgilaklaaGreat
