/- The law NestRemnants, up to the bound. -/
import Derived.Test.YtonmponhpfpokaaGreatRLNestRemnantsA
import Derived.Test.YtonmponhpfpokaaGreatRRows
set_option linter.unusedVariables false
set_option linter.unusedSimpArgs false
set_option linter.unusedSectionVars false
namespace Go.Proofs.YtonmponhpfpokaaGreatR
open Go Go.VI Go.SM Go.Proofs Go.ChangeShapes Go.WideShapes Go.ChangeAt Go.RowKit
set_option maxRecDepth 100000
theorem fF {a b:Bool} (h:a=true) (g:b=true):(a&&b)=true:=by rw [h,g];rfl
set_option maxHeartbeats 0
theorem nestRemnants_holds:Rows.NestRemnantsUptoSaid:=by
 refine OpenClaim.holds_of_cond 14 Tryz.f14 rfl rfl rfl rfl rfl rfl rfl ⟨rfl,rfl,rfl,rfl,rfl⟩ rfl rfl rfl rfl rfl (by kernel_rfl) Tryz.func14 ?_
  (of_decide_eq_true (by kernel_rfl)) (by unfold Func.isWrapper;first | (rw [if_pos (by decide +kernel)];kernel_rfl) | (rw [if_neg (by decide +kernel)];exact ⟨rfl,rfl⟩))
  (fun os started H enc _ F=>Dt os started H enc F)
 unfold joinedFacts
 refine fF ?_ ?_
 refine fF ?_ ?_
 refine fF ?_ ?_
 refine fF ?_ ?_
 refine fF ?_ ?_
 refine fF ?_ ?_
 refine fF ?_ ?_
 refine fF ?_ ?_
 refine fF ?_ ?_
 refine fF ?_ ?_
 refine fF ?_ ?_
 refine fF ?_ ?_
 refine fF ?_ ?_
 refine fF ?_ ?_
 refine fF ?_ ?_
 refine fF ?_ ?_
 refine fF ?_ ?_
 refine fF ?_ ?_
 refine fF ?_ ?_
 refine fF ?_ ?_
 refine fF ?_ ?_
 refine fF ?_ ?_
 refine fF ?_ ?_
 refine fF ?_ ?_
 refine fF ?_ ?_
 refine fF ?_ ?_
 refine fF ?_ ?_
 refine fF ?_ ?_
 refine fF ?_ ?_
 refine fF ?_ ?_
 refine fF ?_ ?_
 ·decide +kernel
 ·decide +kernel
 ·decide +kernel
 ·decide +kernel
 ·decide +kernel
 ·decide +kernel
 ·decide +kernel
 ·decide +kernel
 ·decide +kernel
 ·decide +kernel
 ·decide +kernel
 ·decide +kernel
 ·decide +kernel
 ·decide +kernel
 ·decide +kernel
 ·decide +kernel
 ·decide +kernel
 ·decide +kernel
 ·decide +kernel
 ·decide +kernel
 ·decide +kernel
 ·decide +kernel
 ·decide +kernel
 ·decide +kernel
 ·decide +kernel
 ·decide +kernel
 ·decide +kernel
 ·decide +kernel
 ·decide +kernel
 ·decide +kernel
 ·decide +kernel
 ·decide +kernel
end Go.Proofs.YtonmponhpfpokaaGreatR
