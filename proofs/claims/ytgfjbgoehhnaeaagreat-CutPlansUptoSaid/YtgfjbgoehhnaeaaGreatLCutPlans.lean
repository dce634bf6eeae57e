/- The law CutPlans, up to the bound. -/
import Derived.Test.YtgfjbgoehhnaeaaGreatLCutPlansA
import Derived.Test.YtgfjbgoehhnaeaaGreatRows
set_option linter.unusedVariables false
set_option linter.unusedSimpArgs false
set_option linter.unusedSectionVars false
namespace Go.Proofs.YtgfjbgoehhnaeaaGreat
open Go Go.VI Go.SM Go.Proofs Go.ChangeShapes Go.WideShapes Go.ChangeAt Go.RowKit
set_option maxRecDepth 100000
theorem jR {a b:Bool} (h:a=true) (g:b=true):(a&&b)=true:=by rw [h,g];rfl
set_option maxHeartbeats 0
theorem cutPlans_holds:Rows.CutPlansUptoSaid:=by
 refine OpenClaim.holds_of_cond 8 Tryz.f8 rfl rfl rfl rfl rfl rfl rfl ⟨rfl,rfl,rfl,rfl,rfl⟩ rfl rfl rfl rfl rfl (by kernel_rfl) Tryz.func8 ?_
  (of_decide_eq_true (by kernel_rfl)) (by unfold Func.isWrapper;first | (rw [if_pos (by decide +kernel)];kernel_rfl) | (rw [if_neg (by decide +kernel)];exact ⟨rfl,rfl⟩))
  (fun os started H enc _ F=>Qw os started H enc F)
 unfold joinedFacts
 refine jR ?_ ?_
 refine jR ?_ ?_
 refine jR ?_ ?_
 refine jR ?_ ?_
 refine jR ?_ ?_
 refine jR ?_ ?_
 refine jR ?_ ?_
 refine jR ?_ ?_
 refine jR ?_ ?_
 refine jR ?_ ?_
 refine jR ?_ ?_
 refine jR ?_ ?_
 refine jR ?_ ?_
 refine jR ?_ ?_
 refine jR ?_ ?_
 refine jR ?_ ?_
 refine jR ?_ ?_
 refine jR ?_ ?_
 refine jR ?_ ?_
 refine jR ?_ ?_
 refine jR ?_ ?_
 refine jR ?_ ?_
 refine jR ?_ ?_
 refine jR ?_ ?_
 refine jR ?_ ?_
 refine jR ?_ ?_
 refine jR ?_ ?_
 refine jR ?_ ?_
 refine jR ?_ ?_
 refine jR ?_ ?_
 refine jR ?_ ?_
 ·decide +kernel
 ·decide +kernel
 ·decide +kernel
 ·decide +kernel
 ·decide +kernel
 ·decide +kernel
 ·decide +kernel
 ·decide +kernel
 ·decide +kernel
 ·decide +kernel
 ·decide +kernel
 ·decide +kernel
 ·decide +kernel
 ·decide +kernel
 ·decide +kernel
 ·decide +kernel
 ·decide +kernel
 ·decide +kernel
 ·decide +kernel
 ·decide +kernel
 ·decide +kernel
 ·decide +kernel
 ·decide +kernel
 ·decide +kernel
 ·decide +kernel
 ·decide +kernel
 ·decide +kernel
 ·decide +kernel
 ·decide +kernel
 ·decide +kernel
 ·decide +kernel
 ·decide +kernel
end Go.Proofs.YtgfjbgoehhnaeaaGreat
